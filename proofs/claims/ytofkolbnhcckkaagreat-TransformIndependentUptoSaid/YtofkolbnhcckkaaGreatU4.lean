/-
  splice.Clone: equal copies. Printed by genU4.py.
-/
import Derived.Test.YtofkolbnhcckkaaGreatU3
namespace Go.Proofs.YtofkolbnhcckkaaGreat
open Go
set_option linter.unusedVariables false
set_option linter.unusedSimpArgs false
attribute [local irreducible] wpA opsA drJ drQ drE Ef Ev Shift Fn

set_option maxRecDepth 100000 in
theorem CloneStyle_fn {H : Hp} {a : Option Addr} {n cp : Nat} {css : List (List Value)} (hr : HRow H a n cp 6 css) (hl : n < 68719476736) : Fn Tryz.prog 102 [.slice a n cp] H [] fun v H' I' => H' = H ∧ ∃ a' c', v = .slice a' n c' ∧ I' = [.row v 6 css] := by
  have hn := hr.len
  cases a with
  | none =>
    obtain ⟨rfl, rfl⟩ := hr.nil rfl
    have hcss : css = [] := List.eq_nil_of_length_eq_zero hn
    subst hcss
    refine Fn_of _ _ Tryz.func102 rfl Tryz.ntmps102 rfl fun c => ?_
    refine A_nilrow 6 ?_
    repeat' (first | (refine O_ev WideF.wide rfl (Ev_eqnil rfl rfl) rfl rfl ?_) | refine O_nil ?_ | refine A_seq ?_ | refine A_region ?_ | refine A_ret ?_ | (show opsA _ _ _ _ _ _ _; refine O_ev WideF.wide rfl (Ev_pure rfl) rfl rfl ?_) | (show wpA _ _ _ (.cond _ _ _) _ _ _ _; refine A_iftrue rfl ?_))
    exact End_m (Ret1 rfl rfl) ⟨rfl, none, 0, rfl, rfl⟩
  | some ad =>
    refine Fn_of _ _ Tryz.func102 rfl Tryz.ntmps102 rfl fun c => ?_
    repeat' (first | (refine O_ev WideF.wide rfl (Ev_eqnil rfl rfl) rfl rfl ?_) | (refine O_ef rfl (Ef_build0 WideF.wide rfl ?_); intro b) | (refine O_ef rfl (Ef_appendH WideF.wide rfl rfl hr rfl rfl (by simp; omega) (by simp; omega) rfl ?_); intro a' c') | refine O_nil ?_ | refine A_seq ?_ | refine A_region ?_ | refine A_skip ?_ | refine A_ret ?_ | (show opsA _ _ _ _ _ _ _; refine O_ev WideF.wide rfl (Ev_pure rfl) rfl rfl ?_) | (show wpA _ _ _ (.cond _ _ _) _ _ _ _; refine A_iffalse rfl ?_))
    exact End_m (Ret1 rfl rfl) ⟨rfl, a', c', by simp [hn], by simp⟩

set_option maxRecDepth 100000 in
theorem CloneList_fn {H : Hp} {a : Option Addr} {n cp : Nat} {css : List (List Value)} (hr : HRow H a n cp 2 css) (hl : n < 68719476736) : Fn Tryz.prog 103 [.slice a n cp] H [] fun v H' I' => H' = H ∧ ∃ a' c', v = .slice a' n c' ∧ I' = [.row v 2 css] := by
  have hn := hr.len
  cases a with
  | none =>
    obtain ⟨rfl, rfl⟩ := hr.nil rfl
    have hcss : css = [] := List.eq_nil_of_length_eq_zero hn
    subst hcss
    refine Fn_of _ _ Tryz.func103 rfl Tryz.ntmps103 rfl fun c => ?_
    refine A_nilrow 2 ?_
    repeat' (first | (refine O_ev WideF.wide rfl (Ev_eqnil rfl rfl) rfl rfl ?_) | refine O_nil ?_ | refine A_seq ?_ | refine A_region ?_ | refine A_ret ?_ | (show opsA _ _ _ _ _ _ _; refine O_ev WideF.wide rfl (Ev_pure rfl) rfl rfl ?_) | (show wpA _ _ _ (.cond _ _ _) _ _ _ _; refine A_iftrue rfl ?_))
    exact End_m (Ret1 rfl rfl) ⟨rfl, none, 0, rfl, rfl⟩
  | some ad =>
    refine Fn_of _ _ Tryz.func103 rfl Tryz.ntmps103 rfl fun c => ?_
    repeat' (first | (refine O_ev WideF.wide rfl (Ev_eqnil rfl rfl) rfl rfl ?_) | (refine O_ef rfl (Ef_build0 WideF.wide rfl ?_); intro b) | (refine O_ef rfl (Ef_appendH WideF.wide rfl rfl hr rfl rfl (by simp; omega) (by simp; omega) rfl ?_); intro a' c') | refine O_nil ?_ | refine A_seq ?_ | refine A_region ?_ | refine A_skip ?_ | refine A_ret ?_ | (show opsA _ _ _ _ _ _ _; refine O_ev WideF.wide rfl (Ev_pure rfl) rfl rfl ?_) | (show wpA _ _ _ (.cond _ _ _) _ _ _ _; refine A_iffalse rfl ?_))
    exact End_m (Ret1 rfl rfl) ⟨rfl, a', c', by simp [hn], by simp⟩

set_option maxRecDepth 100000 in
theorem CloneComment_fn {H : Hp} {a : Option Addr} {n cp : Nat} {css : List (List Value)} (hr : HRow H a n cp 6 css) (hl : n < 68719476736) : Fn Tryz.prog 104 [.slice a n cp] H [] fun v H' I' => H' = H ∧ ∃ a' c', v = .slice a' n c' ∧ I' = [.row v 6 css] := by
  have hn := hr.len
  cases a with
  | none =>
    obtain ⟨rfl, rfl⟩ := hr.nil rfl
    have hcss : css = [] := List.eq_nil_of_length_eq_zero hn
    subst hcss
    refine Fn_of _ _ Tryz.func104 rfl Tryz.ntmps104 rfl fun c => ?_
    refine A_nilrow 6 ?_
    repeat' (first | (refine O_ev WideF.wide rfl (Ev_eqnil rfl rfl) rfl rfl ?_) | refine O_nil ?_ | refine A_seq ?_ | refine A_region ?_ | refine A_ret ?_ | (show opsA _ _ _ _ _ _ _; refine O_ev WideF.wide rfl (Ev_pure rfl) rfl rfl ?_) | (show wpA _ _ _ (.cond _ _ _) _ _ _ _; refine A_iftrue rfl ?_))
    exact End_m (Ret1 rfl rfl) ⟨rfl, none, 0, rfl, rfl⟩
  | some ad =>
    refine Fn_of _ _ Tryz.func104 rfl Tryz.ntmps104 rfl fun c => ?_
    repeat' (first | (refine O_ev WideF.wide rfl (Ev_eqnil rfl rfl) rfl rfl ?_) | (refine O_ef rfl (Ef_build0 WideF.wide rfl ?_); intro b) | (refine O_ef rfl (Ef_appendH WideF.wide rfl rfl hr rfl rfl (by simp; omega) (by simp; omega) rfl ?_); intro a' c') | refine O_nil ?_ | refine A_seq ?_ | refine A_region ?_ | refine A_skip ?_ | refine A_ret ?_ | (show opsA _ _ _ _ _ _ _; refine O_ev WideF.wide rfl (Ev_pure rfl) rfl rfl ?_) | (show wpA _ _ _ (.cond _ _ _) _ _ _ _; refine A_iffalse rfl ?_))
    exact End_m (Ret1 rfl rfl) ⟨rfl, a', c', by simp [hn], by simp⟩

set_option maxRecDepth 100000 in
theorem CloneVar_fn {H : Hp} {a : Option Addr} {n cp : Nat} {css : List (List Value)} (hr : HRow H a n cp 2 css) (hl : n < 68719476736) : Fn Tryz.prog 105 [.slice a n cp] H [] fun v H' I' => H' = H ∧ ∃ a' c', v = .slice a' n c' ∧ I' = [.row v 2 css] := by
  have hn := hr.len
  cases a with
  | none =>
    obtain ⟨rfl, rfl⟩ := hr.nil rfl
    have hcss : css = [] := List.eq_nil_of_length_eq_zero hn
    subst hcss
    refine Fn_of _ _ Tryz.func105 rfl Tryz.ntmps105 rfl fun c => ?_
    refine A_nilrow 2 ?_
    repeat' (first | (refine O_ev WideF.wide rfl (Ev_eqnil rfl rfl) rfl rfl ?_) | refine O_nil ?_ | refine A_seq ?_ | refine A_region ?_ | refine A_ret ?_ | (show opsA _ _ _ _ _ _ _; refine O_ev WideF.wide rfl (Ev_pure rfl) rfl rfl ?_) | (show wpA _ _ _ (.cond _ _ _) _ _ _ _; refine A_iftrue rfl ?_))
    exact End_m (Ret1 rfl rfl) ⟨rfl, none, 0, rfl, rfl⟩
  | some ad =>
    refine Fn_of _ _ Tryz.func105 rfl Tryz.ntmps105 rfl fun c => ?_
    repeat' (first | (refine O_ev WideF.wide rfl (Ev_eqnil rfl rfl) rfl rfl ?_) | (refine O_ef rfl (Ef_build0 WideF.wide rfl ?_); intro b) | (refine O_ef rfl (Ef_appendH WideF.wide rfl rfl hr rfl rfl (by simp; omega) (by simp; omega) rfl ?_); intro a' c') | refine O_nil ?_ | refine A_seq ?_ | refine A_region ?_ | refine A_skip ?_ | refine A_ret ?_ | (show opsA _ _ _ _ _ _ _; refine O_ev WideF.wide rfl (Ev_pure rfl) rfl rfl ?_) | (show wpA _ _ _ (.cond _ _ _) _ _ _ _; refine A_iffalse rfl ?_))
    exact End_m (Ret1 rfl rfl) ⟨rfl, a', c', by simp [hn], by simp⟩

set_option maxRecDepth 100000 in
theorem CloneLevel_fn {H : Hp} {a : Option Addr} {n cp : Nat} {css : List (List Value)} (hr : HRow H a n cp 4 css) (hl : n < 68719476736) : Fn Tryz.prog 106 [.slice a n cp] H [] fun v H' I' => H' = H ∧ ∃ a' c', v = .slice a' n c' ∧ I' = [.row v 4 css] := by
  have hn := hr.len
  cases a with
  | none =>
    obtain ⟨rfl, rfl⟩ := hr.nil rfl
    have hcss : css = [] := List.eq_nil_of_length_eq_zero hn
    subst hcss
    refine Fn_of _ _ Tryz.func106 rfl Tryz.ntmps106 rfl fun c => ?_
    refine A_nilrow 4 ?_
    repeat' (first | (refine O_ev WideF.wide rfl (Ev_eqnil rfl rfl) rfl rfl ?_) | refine O_nil ?_ | refine A_seq ?_ | refine A_region ?_ | refine A_ret ?_ | (show opsA _ _ _ _ _ _ _; refine O_ev WideF.wide rfl (Ev_pure rfl) rfl rfl ?_) | (show wpA _ _ _ (.cond _ _ _) _ _ _ _; refine A_iftrue rfl ?_))
    exact End_m (Ret1 rfl rfl) ⟨rfl, none, 0, rfl, rfl⟩
  | some ad =>
    refine Fn_of _ _ Tryz.func106 rfl Tryz.ntmps106 rfl fun c => ?_
    repeat' (first | (refine O_ev WideF.wide rfl (Ev_eqnil rfl rfl) rfl rfl ?_) | (refine O_ef rfl (Ef_build0 WideF.wide rfl ?_); intro b) | (refine O_ef rfl (Ef_appendH WideF.wide rfl rfl hr rfl rfl (by simp; omega) (by simp; omega) rfl ?_); intro a' c') | refine O_nil ?_ | refine A_seq ?_ | refine A_region ?_ | refine A_skip ?_ | refine A_ret ?_ | (show opsA _ _ _ _ _ _ _; refine O_ev WideF.wide rfl (Ev_pure rfl) rfl rfl ?_) | (show wpA _ _ _ (.cond _ _ _) _ _ _ _; refine A_iffalse rfl ?_))
    exact End_m (Ret1 rfl rfl) ⟨rfl, a', c', by simp [hn], by simp⟩

/-- what was handed back becomes persistent -/
theorem Fn.frz {P : Program} {f : FuncId} {args : List Value} {H : Hp} {n k : Nat} {css : List (List Value)} (h1 : ∀ cs ∈ css, ∀ u ∈ cs, u.oneCell' = true)
    (h : Fn P f args H [] fun v H' I' => H' = H ∧ ∃ a' c', v = .slice a' n c' ∧ I' = [.row v k css]) : Fn P f args H [] fun v H' I' => (∃ a' c', v = .slice a' n c' ∧ HRow H' a' n c' k css) ∧ I' = [] := by
  refine h.shift ?_
  rintro c w v H' I' hw ⟨rfl, a', c', rfl, rfl⟩
  obtain ⟨H1, hle1, hr1, hw1⟩ := hw.freeze h1
  exact ⟨H1, [], hw1, ⟨a', c', rfl, hr1⟩, rfl⟩
theorem All2.set {α : Type} {R : List Value → α → Prop} {css : List (List Value)} {l : List α} {i : Nat} {cs : List Value} {x : α} (h : All2 R css l) (hi : l[i]? = some x) (hc : R cs x) : All2 R (css.set i cs) l := by
  induction h generalizing i with
  | nil => simp at hi
  | cons h t ih =>
    cases i with
    | zero => simp at hi; subst hi; exact .cons hc t
    | succ i => exact .cons h (ih (by simpa using hi))
theorem All2.ones1 {α : Type} {R : List Value → α → Prop} (h1 : ∀ cs x, R cs x → ∀ u ∈ cs, u.oneCell' = true) {css : List (List Value)} {l : List α} (h : All2 R css l) : ∀ cs ∈ css, ∀ u ∈ cs, u.oneCell' = true := by
  intro cs hcs
  obtain ⟨i, hi⟩ := List.getElem?_of_mem hcs
  obtain ⟨x, _, hx⟩ := h.get hi
  exact h1 cs x hx
set_option maxRecDepth 100000 in
set_option maxHeartbeats 4000000 in
theorem cloneSettings_fn {H : Hp} {cs : List Value} {x : Sett} (hx : SettH H cs x) (hm : x.fine) : Fn Tryz.prog 84 [.agg cs.toArray] H [] fun v H' I' => (∃ cs', v = .agg cs'.toArray ∧ SettH H' cs' x) ∧ I' = [] := by
  obtain ⟨sa, sn, sc, la, ln, lc, ca, cn, cc, va, vn, vc, rfl, p1, p2, p3, p4⟩ := hx.ex
  obtain ⟨m1, m2, m3, m4, m5, m6⟩ := hm
  have q1 := p1.len
  have q2 := p2.len
  have q3 := p3.len
  have q4 := p4.len
  rw [List.length_map] at q3 q4
  obtain ⟨scss, sr, sR⟩ := p1.ex
  obtain ⟨lcss, lr, lR⟩ := p2.ex
  have c1 := fun Hx (h : HLe H Hx) => CloneStyle_fn (sr.mono h) (by omega)
  have c2 := fun Hx (h : HLe H Hx) => CloneList_fn (lr.mono h) (by omega)
  have c3 := fun Hx (h : HLe H Hx) => (CloneComment_fn (p3.mono h) (by omega)).frz (cmrow_one _)
  have c4 := fun Hx (h : HLe H Hx) => (CloneVar_fn (p4.mono h) (by omega)).frz (vrrow_one _)
  have hone : ∀ u ∈ [.slice sa sn sc, .slice la ln lc, .slice ca cn cc, .slice va vn vc], Value.oneCell' u = true := by
    intro u hu
    simp at hu
    rcases hu with rfl | rfl | rfl | rfl <;> rfl
  refine Fn_of _ _ Tryz.func84 rfl Tryz.ntmps84 rfl fun c => ?_
  refine A_seq ?_
  repeat' (first | (refine O_ef rfl (Ef_boxa WideF.wide (cs := [.slice sa sn sc, .slice la ln lc, .slice ca cn cc, .slice va vn vc]) rfl rfl ?_); intro b1; refine O_freezeBox hone ?_; intro H1 hle1 hb1; have g := hle1) | refine O_nil ?_ | refine A_seq ?_ | refine A_region ?_ | (show opsA _ _ _ _ _ _ _; (show opsA _ _ _ _ (⟨_, .alloc _, _, _, _, _⟩ :: _) _ _; (refine O_ef rfl (Ef_alloc WideF.wide rfl ?_); intro b))))
  refine A_cutu (fun st => ∃ (H5 : Hp) (b2 b3 : Nat) (sa' : Option Addr) (sc' : Nat) (la' : Option Addr) (lc' : Nat) (ca' : Option Addr) (cc' : Nat) (va' : Option Addr) (vc' : Nat), HLe H H5 ∧ HRow H5 ca' cn cc' 6 (x.comments.map cmrow) ∧ HRow H5 va' vn vc' 2 (x.vars.map vrrow) ∧ st = ⟨58, [(2, .pointer (some ⟨b2, 0, none⟩)), (3, .pointer (some ⟨b3, 0, none⟩))], H5, [.box b3 [.slice sa' sn sc', .slice la' ln lc', .slice ca' cn cc', .slice va' vn vc'], .row (.slice la' ln lc') 2 lcss, .row (.slice sa' sn sc') 6 scss, .box b2 [.slice none 0 0, .slice none 0 0, .slice none 0 0, .slice none 0 0]], [], []⟩) ?_ ?_
  · repeat' (first | (refine A_drawM WideF.wide (.q 0 (.q 1 (.q 3 (.q 4 (.q 6 (.q 7 (.q 9 (.q 10 (.f 2 (.f 5 (.f 8 (.f 11 (.q 12 (.e 13 (.e 14 (.done [])))) 13 (.e 11 (.q 12 (.e 14 (.done []))))) 13 (.e 8 (.e 11 (.q 12 (.e 14 (.done [])))))) 13 (.e 5 (.e 8 (.e 11 (.q 12 (.e 14 (.done []))))))) 13 (.e 2 (.e 5 (.e 8 (.e 11 (.q 12 (.e 14 (.done [])))))))))))))))) [] (by decide +kernel) ?_) | (show drQ _ _ _ ⟨_, .load _ _, _, _, _, _⟩ _ _; first | refine D_ev rfl (Ev_loadH1 rfl (hb1 0 _ rfl)) rfl rfl ?_ | refine D_ev rfl (Ev_loadH1 rfl (hb1 1 _ rfl)) rfl rfl ?_ | refine D_ev rfl (Ev_loadH1 rfl (hb1 2 _ rfl)) rfl rfl ?_ | refine D_ev rfl (Ev_loadH1 rfl (hb1 3 _ rfl)) rfl rfl ?_) | (refine E_ef rfl (Ef_call (I := []) WideF.wide (c1 _ g) ⟨rfl, trivial⟩ rfl ?_); rintro v H2 I2 hle2 ⟨rfl, sa', sc', rfl, rfl⟩; refine ⟨⟨HLe.refl _, rfl⟩, ?_⟩) | (refine E_ef rfl (Ef_call (I := []) WideF.wide (c2 _ g) ⟨rfl, trivial⟩ rfl ?_); rintro v H3 I3 hle3 ⟨rfl, la', lc', rfl, rfl⟩; refine ⟨⟨HLe.refl _, rfl⟩, ?_⟩) | (refine E_ef rfl (Ef_call (I := []) WideF.wide (c3 _ g) ⟨rfl, trivial⟩ rfl ?_); rintro v H4 I4 hle4 ⟨⟨ca', cc', rfl, r3⟩, rfl⟩; refine ⟨⟨hle4, rfl⟩, ?_⟩); have hb1 := hb1.mono hle4; have g := g.trans hle4 | (refine E_ef rfl (Ef_call (I := []) WideF.wide (c4 _ g) ⟨rfl, trivial⟩ rfl ?_); rintro v H5 I5 hle5 ⟨⟨va', vc', rfl, r4⟩, rfl⟩; refine ⟨⟨hle5, rfl⟩, ?_⟩); have r3 := r3.mono hle5; have g := g.trans hle5 | refine O_nil ?_ | (show drJ _ _ _ _ _ _ _ (.q _ _) _; refine D_q rfl ?_) | (show drJ _ _ _ _ _ _ _ (.e _ _) _; refine D_e rfl ?_) | (show drJ _ _ _ _ _ _ _ (.f _ _ _ _) _; refine D_f rfl rfl ?_ ?_) | (show drJ _ _ _ _ _ _ _ (.done _) _; refine D_done ?_; simp only [List.cons_append, List.nil_append]) | (show drQ _ _ _ _ _ _; first | (show drQ _ _ _ ⟨_, .fieldAddr _ _ _, _, _, _, _⟩ _ _; refine D_ev rfl (Ev_fieldAddr rfl rfl rfl) rfl rfl ?_) | (show drQ _ _ _ ⟨_, .build _ _, _, _, _, _⟩ _ _; refine D_ev rfl (Ev_build (vs := [(_, _), (_, _), (_, _), (_, _)]) ⟨rfl, rfl, rfl, rfl, rfl, rfl, rfl, rfl, trivial⟩ rfl) rfl rfl ?_)) | (show drE _ _ _ _ _ _ _; first | (show drE _ _ _ _ ⟨_, .alloc _, _, _, _, _⟩ _ _; (refine E_ef rfl (Ef_alloc WideF.wide rfl ?_); intro b; refine ⟨Grow.same rfl rfl, ?_⟩)) | (show drE _ _ _ _ ⟨_, .store _ _ _, _, _, _, _⟩ _ _; first | (refine E_ef rfl (Ef_storew WideF.wide rfl rfl rfl rfl rfl ?_); refine ⟨Grow.same rfl rfl, ?_⟩) | (refine E_ef rfl (Ef_f1 (Ef_storew WideF.wide rfl rfl rfl rfl rfl ?_)); refine ⟨Grow.same rfl rfl, ?_⟩) | (refine E_ef rfl (Ef_f2 (Ef_storew WideF.wide rfl rfl rfl rfl rfl ?_)); refine ⟨Grow.same rfl rfl, ?_⟩))))
    all_goals first
      | exact Shift.to ⟨_, _, _, _, _, _, _, _, _, _, _, g, r3, r4, rfl⟩ ⟨rfl, rfl, rfl, ⟨rfl, rfl, trivial⟩, Own.subi [0, 1, 2, 3] (by decide) rfl rfl⟩
      | trace_state
  clear hb1 g
  rintro st ⟨H5, b2, b3, sa', sc', la', lc', ca', cc', va', vc', g, r3, r4, rfl⟩
  repeat' (first | refine O_nil ?_ | refine A_seq ?_ | refine A_region ?_ | refine A_block ?_ | (show opsA _ _ _ _ _ _ _; first | refine O_ev WideF.wide rfl (Ev_pure rfl) rfl rfl ?_ | (show opsA _ _ _ _ (⟨_, .load _ _, _, _, _, _⟩ :: _) _ _; refine O_ev WideF.wide rfl (Ev_loadB1 (i := 0) rfl rfl rfl) rfl rfl ?_) | (show opsA _ _ _ _ (⟨_, .fieldAddr _ _ _, _, _, _, _⟩ :: _) _ _; refine O_ev WideF.wide rfl (Ev_fieldAddr rfl rfl rfl) rfl rfl ?_) | (show opsA _ _ _ _ (⟨_, .call _, _, _, _, _⟩ :: _) _ _; refine O_ev WideF.wide rfl (Ev_llen rfl) rfl rfl ?_)))
  refine A_loopu (fun q st => ∃ (H6 : Hp) (i : Nat) (css : List (List Value)), q = sn - i ∧ i ≤ sn ∧ HLe H5 H6 ∧ css.length = sn ∧ All2 (StyH H6) css x.styles ∧ st = ⟨58, [(2, .pointer (some ⟨b2, 0, none⟩)), (3, .pointer (some ⟨b3, 0, none⟩)), (21, .int .i64 sn), (22, .int .i64 i)], H6, [.row (.slice sa' sn sc') 6 css, .row (.slice la' ln lc') 2 lcss, .box b3 [.slice sa' sn sc', .slice la' ln lc', .slice ca' cn cc', .slice va' vn vc'], .box b2 [.slice none 0 0, .slice none 0 0, .slice none 0 0, .slice none 0 0]], [], []⟩) ?_ ?_
  · exact Shift.to ⟨_, H5, 0, scss, rfl, by omega, HLe.refl _, sr.len, sR.mono fun _ _ h => h.mono g, rfl⟩ ⟨rfl, rfl, rfl, ⟨rfl, rfl, rfl, rfl, trivial⟩, Own.subi [2, 1, 0, 3] (by decide) rfl rfl⟩
  rintro q st ⟨H6, i, css, rfl, hi, hle6, hcl, hR, rfl⟩
  by_cases hlt : i < sn
  · refine A_rowaddr (q := 0) rfl ?_
    intro z1 z2 z3 z4 z5
    obtain ⟨sb, rfl⟩ : ∃ sb, sa' = some ⟨sb, 0, none⟩ := by
      cases sa' with
      | none => have := (z3 rfl).1; rw [this] at hcl; simp at hcl; omega
      | some ad => obtain ⟨sb, rfl⟩ := z5 _ rfl; exact ⟨sb, rfl⟩
    have hget : css[i]? = some css[i] := List.getElem?_eq_getElem (by omega)
    obtain ⟨y, hy, hyc⟩ := hR.get hget
    obtain ⟨ya, yn, yc, hye, yr⟩ := hyc.ex
    rw [hye] at hget
    have hyl := yr.len
    rw [List.length_map] at hyl
    have ck := (CloneProp_fn yr (by have := m2 y (List.mem_of_getElem? hy); omega)).frz (prow_one _)
    repeat' (first | (refine A_drawi WideF.wide (.q 0 (.q 1 (.q 2 (.q 3 (.q 4 (.q 5 (.q 6 (.q 7 (.e 8 (.e 9 (.q 10 (.q 11 (.done [12]))))))))))))) [12] [0, 1, 3] [2] (by decide +kernel) (by decide) rfl ?_; simp only [Own.picks, Own.rget, List.cons_append, List.nil_append, List.append_nil]) | (refine E_ef rfl (Ef_ev WideF.wide (Ev_loadR1 (q := 0) (d := 5) rfl rfl hget (by simp) rfl) rfl rfl ?_); refine ⟨Grow.same rfl rfl, ?_⟩) | (refine E_ef rfl (Ef_call (I := []) WideF.wide (ck) ⟨rfl, trivial⟩ rfl ?_); rintro v H7 I7 hle7 ⟨⟨ya', yc', rfl, yr'⟩, rfl⟩; refine ⟨⟨hle7, rfl⟩, ?_⟩) | (refine O_ef rfl (Ef_storeR1 WideF.wide (dd := 5) rfl rfl hget (by simp) rfl rfl rfl rfl ?_)) | refine O_nil ?_ | refine A_seq ?_ | refine A_region ?_ | refine A_skip ?_ | refine A_block ?_ | (show drJ _ _ _ _ _ _ _ (.q _ _) _; refine D_q rfl ?_) | (show drJ _ _ _ _ _ _ _ (.e _ _) _; refine D_e rfl ?_) | (show drJ _ _ _ _ _ _ _ (.done _) _; refine D_done ?_; simp only [List.cons_append, List.nil_append]) | (show drQ _ _ _ _ _ _; first | refine D_ev rfl (Ev_pure rfl) rfl rfl ?_ | (show drQ _ _ _ ⟨_, .load _ _, _, _, _, _⟩ _ _; refine D_ev rfl (Ev_loadB1 (i := 0) rfl rfl rfl) rfl rfl ?_) | (show drQ _ _ _ ⟨_, .indexAddr _ _ _, _, _, _, _⟩ _ _; refine D_ev rfl (Ev_indexAddr rfl rfl (by omega) (by omega)) rfl rfl ?_) | (show drQ _ _ _ ⟨_, .fieldAddr _ _ _, _, _, _, _⟩ _ _; refine D_ev rfl (Ev_fieldAddr rfl rfl rfl) rfl rfl ?_)) | (show opsA _ _ _ _ _ _ _; first | refine O_ev WideF.wide rfl (Ev_pure rfl) rfl rfl ?_ | (show opsA _ _ _ _ (⟨_, .binOp _ _ _ _ _, _, _, _, _⟩ :: _) _ _; refine O_ev WideF.wide rfl (Ev_add rfl rfl (wi64 (by omega))) rfl rfl ?_)) | (show wpA _ _ _ (.cond _ _ _) _ _ _ _; (refine A_if rfl (fun h => ?_) (fun h => ?_) <;> try (exfalso; omega))))
    all_goals first
      | exact Shift.to ⟨_, by omega, H7, i + 1, _, rfl, by omega, hle6.trans hle7, by simpa using hcl, (hR.mono fun _ _ h => h.mono hle7).set hy ⟨_, _, _, rfl, yr'⟩, rfl⟩ ⟨rfl, rfl, rfl, ⟨rfl, rfl, rfl, rfl, trivial⟩, Own.subi [0, 1, 3, 2] (by decide) rfl rfl⟩
      | exact Shift.to ⟨_, by omega, H7, i + 1, _, rfl, by omega, hle6.trans hle7, by simpa using hcl, (hR.mono fun _ _ h => h.mono hle7).set hy ⟨_, _, _, rfl, yr'⟩, rfl⟩ ⟨rfl, rfl, rfl, ⟨rfl, rfl, rfl, rfl, trivial⟩, Own.subi [0, 1, 2, 3] (by decide) rfl rfl⟩
      | trace_state
  · obtain rfl : sn = i := by omega
    repeat' (first | refine O_nil ?_ | refine A_seq ?_ | refine A_region ?_ | refine A_block ?_ | (show opsA _ _ _ _ _ _ _; first | refine O_ev WideF.wide rfl (Ev_pure rfl) rfl rfl ?_ | (show opsA _ _ _ _ (⟨_, .load _ _, _, _, _, _⟩ :: _) _ _; refine O_ev WideF.wide rfl (Ev_loadB1 (i := 2) rfl rfl rfl) rfl rfl ?_) | (show opsA _ _ _ _ (⟨_, .fieldAddr _ _ _, _, _, _, _⟩ :: _) _ _; refine O_ev WideF.wide rfl (Ev_fieldAddr rfl rfl rfl) rfl rfl ?_) | (show opsA _ _ _ _ (⟨_, .call _, _, _, _, _⟩ :: _) _ _; refine O_ev WideF.wide rfl (Ev_llen rfl) rfl rfl ?_)) | (show wpA _ _ _ (.exit _) _ _ _ _; refine A_exit rfl ?_) | (show wpA _ _ _ (.cond _ _ _) _ _ _ _; (refine A_if rfl (fun h => ?_) (fun h => ?_) <;> try (exfalso; omega))))
    refine A_loopu (fun q st => ∃ (H7 : Hp) (i : Nat) (css' : List (List Value)), q = ln - i ∧ i ≤ ln ∧ HLe H6 H7 ∧ css'.length = ln ∧ All2 (LstH H7) css' x.lists ∧ st = ⟨58, [(2, .pointer (some ⟨b2, 0, none⟩)), (3, .pointer (some ⟨b3, 0, none⟩)), (40, .int .i64 ln), (41, .int .i64 i)], H7, [.row (.slice la' ln lc') 2 css', .row (.slice sa' sn sc') 6 css, .box b3 [.slice sa' sn sc', .slice la' ln lc', .slice ca' cn cc', .slice va' vn vc'], .box b2 [.slice none 0 0, .slice none 0 0, .slice none 0 0, .slice none 0 0]], [], []⟩) ?_ ?_
    · exact Shift.to ⟨_, H6, 0, lcss, rfl, by omega, HLe.refl _, lr.len, lR.mono fun _ _ h => h.mono (g.trans hle6), rfl⟩ ⟨rfl, rfl, rfl, ⟨rfl, rfl, rfl, rfl, trivial⟩, Own.subi [1, 0, 2, 3] (by decide) rfl rfl⟩
    rintro q st ⟨H7, i, css', rfl, hi, hle7, hcl', hR', rfl⟩
    by_cases hlt : i < ln
    · refine A_rowaddr (q := 0) rfl ?_
      intro z1 z2 z3 z4 z5
      obtain ⟨sb, rfl⟩ : ∃ sb, la' = some ⟨sb, 0, none⟩ := by
        cases la' with
        | none => have := (z3 rfl).1; rw [this] at hcl'; simp at hcl'; omega
        | some ad => obtain ⟨sb, rfl⟩ := z5 _ rfl; exact ⟨sb, rfl⟩
      have hget : css'[i]? = some css'[i] := List.getElem?_eq_getElem (by omega)
      obtain ⟨y, hy, hyc⟩ := hR'.get hget
      obtain ⟨ya, yn, yc, hye, yr⟩ := hyc.ex
      rw [hye] at hget
      have hyl := yr.len
      rw [List.length_map] at hyl
      have ck := (CloneLevel_fn yr (by have := m4 y (List.mem_of_getElem? hy); omega)).frz (lvrow_one _)
      repeat' (first | (refine A_drawi WideF.wide (.q 0 (.q 1 (.q 2 (.q 3 (.q 4 (.q 5 (.q 6 (.q 7 (.e 8 (.e 9 (.q 10 (.q 11 (.done [12]))))))))))))) [12] [0, 1, 3] [2] (by decide +kernel) (by decide) rfl ?_; simp only [Own.picks, Own.rget, List.cons_append, List.nil_append, List.append_nil]) | (refine E_ef rfl (Ef_ev WideF.wide (Ev_loadR1 (q := 0) (d := 1) rfl rfl hget (by simp) rfl) rfl rfl ?_); refine ⟨Grow.same rfl rfl, ?_⟩) | (refine E_ef rfl (Ef_call (I := []) WideF.wide (ck) ⟨rfl, trivial⟩ rfl ?_); rintro v H8 I8 hle8 ⟨⟨ya', yc', rfl, yr'⟩, rfl⟩; refine ⟨⟨hle8, rfl⟩, ?_⟩) | (refine O_ef rfl (Ef_storeR1 WideF.wide (dd := 1) rfl rfl hget (by simp) rfl rfl rfl rfl ?_)) | refine O_nil ?_ | refine A_seq ?_ | refine A_region ?_ | refine A_skip ?_ | refine A_block ?_ | (show drJ _ _ _ _ _ _ _ (.q _ _) _; refine D_q rfl ?_) | (show drJ _ _ _ _ _ _ _ (.e _ _) _; refine D_e rfl ?_) | (show drJ _ _ _ _ _ _ _ (.done _) _; refine D_done ?_; simp only [List.cons_append, List.nil_append]) | (show drQ _ _ _ _ _ _; first | refine D_ev rfl (Ev_pure rfl) rfl rfl ?_ | (show drQ _ _ _ ⟨_, .load _ _, _, _, _, _⟩ _ _; refine D_ev rfl (Ev_loadB1 (i := 0) rfl rfl rfl) rfl rfl ?_) | (show drQ _ _ _ ⟨_, .indexAddr _ _ _, _, _, _, _⟩ _ _; refine D_ev rfl (Ev_indexAddr rfl rfl (by omega) (by omega)) rfl rfl ?_) | (show drQ _ _ _ ⟨_, .fieldAddr _ _ _, _, _, _, _⟩ _ _; refine D_ev rfl (Ev_fieldAddr rfl rfl rfl) rfl rfl ?_)) | (show opsA _ _ _ _ _ _ _; first | refine O_ev WideF.wide rfl (Ev_pure rfl) rfl rfl ?_ | (show opsA _ _ _ _ (⟨_, .binOp _ _ _ _ _, _, _, _, _⟩ :: _) _ _; refine O_ev WideF.wide rfl (Ev_add rfl rfl (wi64 (by omega))) rfl rfl ?_)) | (show wpA _ _ _ (.cond _ _ _) _ _ _ _; (refine A_if rfl (fun h => ?_) (fun h => ?_) <;> try (exfalso; omega))))
      all_goals first
        | exact Shift.to ⟨_, by omega, H8, i + 1, _, rfl, by omega, hle7.trans hle8, by simpa using hcl', (hR'.mono fun _ _ h => h.mono hle8).set hy ⟨_, _, _, rfl, yr'⟩, rfl⟩ ⟨rfl, rfl, rfl, ⟨rfl, rfl, rfl, rfl, trivial⟩, Own.subi [0, 1, 3, 2] (by decide) rfl rfl⟩
        | exact Shift.to ⟨_, by omega, H8, i + 1, _, rfl, by omega, hle7.trans hle8, by simpa using hcl', (hR'.mono fun _ _ h => h.mono hle8).set hy ⟨_, _, _, rfl, yr'⟩, rfl⟩ ⟨rfl, rfl, rfl, ⟨rfl, rfl, rfl, rfl, trivial⟩, Own.subi [0, 1, 2, 3] (by decide) rfl rfl⟩
        | trace_state
    · obtain rfl : ln = i := by omega
      refine A_freeze (hR'.ones1 fun _ _ h => h.one) ?_
      intro H8 hle8 hr8
      refine A_freeze (hR.ones1 fun _ _ h => h.one) ?_
      intro H9 hle9 hr9
      repeat' (first | refine O_nil ?_ | refine A_seq ?_ | refine A_region ?_ | refine A_ret ?_ | (show opsA _ _ _ _ _ _ _; first | refine O_ev WideF.wide rfl (Ev_pure rfl) rfl rfl ?_ | (show opsA _ _ _ _ (⟨_, .load _ _, _, _, _, _⟩ :: _) _ _; refine O_ev WideF.wide rfl (Ev_loadB (i := 0) rfl rfl rfl) rfl rfl ?_) | (show opsA _ _ _ _ (⟨_, .store _ _ _, _, _, _, _⟩ :: _) _ _; refine O_f1 (O_ef rfl (Ef_storew WideF.wide rfl rfl rfl rfl rfl ?_)))) | (show wpA _ _ _ (.exit _) _ _ _ _; refine A_exit rfl ?_) | (show wpA _ _ _ (.cond _ _ _) _ _ _ _; (refine A_if rfl (fun h => ?_) (fun h => ?_) <;> try (exfalso; omega))))
      have gg := (hle6.trans hle7).trans (hle8.trans hle9)
      refine End_e (RetC rfl rfl (i := 0) rfl rfl) ⟨⟨_, rfl, ⟨sa', sn, sc', la', ln, lc', ca', cn, cc', va', vn, vc', rfl, ⟨css, hr9, hR.mono fun _ _ h => h.mono (hle7.trans (hle8.trans hle9))⟩, ⟨css', hr8.mono hle9, hR'.mono fun _ _ h => h.mono (hle8.trans hle9)⟩, r3.mono gg, r4.mono gg⟩⟩, rfl⟩

end Go.Proofs.YtofkolbnhcckkaaGreat
