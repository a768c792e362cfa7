/-
  slices.Values, AppendSeq, Collect; SortStableFunc of few elements; Chronological of few.
-/
import Derived.Test.YtlcoebomgaodgaaQ9
namespace Go.Proofs.Ytlcoebomgaodgaa
open Go
set_option linter.unusedVariables false
set_option linter.unusedSimpArgs false
attribute [local irreducible] wpA opsA drJ drQ drE Ef Ev Shift Fn
abbrev valsV (b : Nat) : Value := .func (.func 69) #[] #[.pointer (some ⟨b, 0, none⟩)]
set_option maxRecDepth 100000 in
theorem Values_fn {H : Hp} {a : Option Addr} {n cp : Nat} : Fn Try.prog 48 [.slice a n cp] H [] fun v H' I' => (∃ b, v = valsV b ∧ H' b 0 = some (.slice a n cp)) ∧ I' = [] := by
  refine Fn_of _ _ Try.func48 rfl Try.ntmps48 rfl fun c => ?_
  repeat' (first | (refine O_freezeBox (by intro u hu; simp at hu; subst hu; rfl) ?_; intro H1 hle1 hc1; refine O_ev WideF.wide rfl (Ev_makeFunc (xs := []) (vs := []) (ys := [.tmp 1]) (us := [.pointer (some ⟨_, 0, none⟩)]) rfl rfl) rfl rfl ?_) | refine O_nil ?_ | refine A_seq ?_ | refine A_region ?_ | refine A_ret ?_ | (show opsA _ _ _ _ _ _ _; first | refine O_ev WideF.wide rfl (Ev_pure rfl) rfl rfl ?_ | (show opsA _ _ _ _ (⟨_, .box _ _, _, _, _, _⟩ :: _) _ _; (refine O_ef rfl (Ef_box1 WideF.wide rfl rfl rfl ?_); intro b))))
  refine End_e (Ret1 rfl rfl) ⟨⟨_, rfl, ?_⟩, rfl⟩
  exact hc1 0 _ rfl
/-- how a round of an iterator ends, and the iterator itself: J behind a round that went on, E j behind one that jumped by j -/
def rpost (lo : Nat) (r : Loop) (J : Hp → Own → Prop) (E : Code → Hp → Own → Prop) (v : Value) (H' : Hp) (I' : Own) : Prop :=
  ∃ r' M', I' = .obj lo (.loop r') :: M' ∧ ((v = .bool true ∧ r' = r ∧ J H' M') ∨ ∃ j, v = .bool false ∧ r' = rdone r j ∧ E j H' M')
def ipost (lo : Nat) (r : Loop) (J : Hp → Own → Prop) (E : Code → Hp → Own → Prop) (H' : Hp) (I' : Own) : Prop :=
  ∃ r' M', I' = .obj lo (.loop r') :: M' ∧ ((r' = r ∧ J H' M') ∨ ∃ j, r' = rdone r j ∧ E j H' M')
abbrev vlSt (H : Hp) (lo : Nat) (a : Option Addr) (n cp : Nat) (i : Nat) (r : Loop) (I : Own) : Sta := ⟨16, [(0, .func (.yield lo) #[] #[]), (5, .slice a n cp), (6, .int .i64 n), (7, .int .i64 i)], H, .obj lo (.loop r) :: I, [], []⟩
set_option maxRecDepth 100000 in
set_option maxHeartbeats 1000000 in
theorem Values1_fn {H : Hp} {a : Option Addr} {n cp b : Nat} {l : List Rev} (hx0 : HRow H a n cp 3 (l.map rrow)) (hb : H b 0 = some (.slice a n cp)) (hn : n < 68719476736) {lo : Nat} {r : Loop} (hps : r.params.size = 1)
    (J : Nat → Hp → Own → Prop) (E : Code → Hp → Own → Prop) {I0 : Own} (h0 : J 0 H I0)
    (hround : ∀ i H1 I1 x, HLe H H1 → J i H1 I1 → i < n → l[i]? = some x → RoundFn Try.prog lo r [.agg (rrow x).toArray] H1 I1 (rpost lo r (J (i + 1)) E)) :
    Fn Try.prog 69 [.func (.yield lo) #[] #[], .pointer (some ⟨b, 0, none⟩)] H (.obj lo (.loop r) :: I0) fun _ H' I' => ipost lo r (J n) E H' I' := by
  refine Fn_of _ _ Try.func69 rfl Try.ntmps69 rfl fun c => ?_
  repeat' (first | (refine O_ev WideF.wide rfl (Ev_loadH1 rfl hb) rfl rfl ?_) | refine O_nil ?_ | refine A_seq ?_ | refine A_region ?_ | refine A_block ?_ | (show opsA _ _ _ _ _ _ _; first | refine O_ev WideF.wide rfl (Ev_pure rfl) rfl rfl ?_ | (show opsA _ _ _ _ (⟨_, .call _, _, _, _, _⟩ :: _) _ _; refine O_ev WideF.wide rfl (Ev_llen rfl) rfl rfl ?_)))
  refine A_loopu (fun m s => ∃ (H1 : Hp) (I1 : Own) (i : Nat), m = n - i ∧ i ≤ n ∧ HLe H H1 ∧ J i H1 I1 ∧ s = vlSt H1 lo a n cp i r I1) ?_ ?_
  · exact Shift.to ⟨_, H, I0, 0, rfl, by omega, HLe.refl _, h0, rfl⟩ ⟨rfl, rfl, rfl, ⟨rfl, rfl, rfl, rfl, trivial⟩, Own.sub_refl _⟩
  · rintro m s ⟨H1, I1, i, rfl, hi, hle1, hJ, rfl⟩
    by_cases hlt : i < n
    · have hx := hx0.mono hle1
      obtain ⟨b', o, x, rfl, hxi, hc⟩ := hx.atm i hlt
      have hrd := hround i H1 I1 x hle1 hJ hlt hxi
      unfold rrow at hc hrd
      repeat' (first | (refine O_ev WideF.wide rfl (Ev_loadH rfl hc rfl) rfl rfl ?_) | (refine O_ef rfl (Ef_yield1 WideF.wide hrd rfl ⟨rfl, trivial⟩ hps rfl ?_); rintro v H2 I2 hle2 ⟨r', M', rfl, ⟨rfl, rfl, hJ2⟩ | ⟨j, rfl, rfl, hE2⟩⟩) | refine O_nil ?_ | refine A_seq ?_ | refine A_region ?_ | refine A_skip ?_ | refine A_ret ?_ | refine A_block ?_ | (show opsA _ _ _ _ _ _ _; first | refine O_ev WideF.wide rfl (Ev_pure rfl) rfl rfl ?_ | (show opsA _ _ _ _ (⟨_, .load _ _, _, _, _, _⟩ :: _) _ _; refine O_ev WideF.wide rfl (Ev_loadB (i := 0) rfl rfl rfl) rfl rfl ?_) | (show opsA _ _ _ _ (⟨_, .indexAddr _ _ _, _, _, _, _⟩ :: _) _ _; refine O_ev WideF.wide rfl (Ev_indexAddr rfl rfl (by omega) (by omega)) rfl rfl ?_) | (show opsA _ _ _ _ (⟨_, .binOp _ _ _ _ _, _, _, _, _⟩ :: _) _ _; refine O_ev WideF.wide rfl (Ev_add rfl rfl (wi64 (by omega))) rfl rfl ?_) | (show opsA _ _ _ _ (⟨_, .unOp _ _ _, _, _, _, _⟩ :: _) _ _; refine O_ev WideF.wide rfl (Ev_notb rfl) rfl rfl ?_) | (show opsA _ _ _ _ (⟨_, .alloc _, _, _, _, _⟩ :: _) _ _; (refine O_ef rfl (Ef_alloc WideF.wide rfl ?_); intro b)) | (show opsA _ _ _ _ (⟨_, .store _ _ _, _, _, _, _⟩ :: _) _ _; refine O_ef rfl (Ef_storew WideF.wide rfl rfl rfl rfl rfl ?_))) | (show wpA _ _ _ (.cond _ _ _) _ _ _ _; first | (refine A_if rfl (fun h => ?_) (fun h => ?_) <;> try (exfalso; omega)) | refine A_iftrue rfl ?_ | refine A_iffalse rfl ?_))
      · exact Shift.to ⟨_, by omega, H2, M', i + 1, rfl, by omega, hle1.trans hle2, hJ2, rfl⟩ ⟨rfl, rfl, rfl, ⟨rfl, rfl, rfl, rfl, trivial⟩, Own.sub_tail _ _⟩
      · exact Shift.lek ⟨16, [], H2, .obj lo (.loop (rdone r j)) :: M', [], []⟩ ⟨rfl, rfl, rfl, trivial, Own.sub_tail _ _⟩ (End_m (Ret0 rfl) ⟨_, _, rfl, .inr ⟨j, rfl, hE2⟩⟩)
    · have hin : n = i := by omega
      subst hin
      repeat' (first | refine O_nil ?_ | refine A_seq ?_ | refine A_region ?_ | (show opsA _ _ _ _ _ _ _; refine O_ev WideF.wide rfl (Ev_pure rfl) rfl rfl ?_) | (show wpA _ _ _ (.exit _) _ _ _ _; refine A_exit rfl ?_) | (show wpA _ _ _ (.cond _ _ _) _ _ _ _; (refine A_if rfl (fun h => ?_) (fun h => ?_) <;> try (exfalso; omega))))
      exact End_m (Ret0 rfl) ⟨_, _, rfl, .inl ⟨rfl, hJ⟩⟩
def apJ (l : List Rev) (b2 : Nat) (i : Nat) (_ : Hp) (I1 : Own) : Prop :=
  ∃ a n c p, I1 = [.box b2 [.slice a n c], .row (.slice a n c) 3 p] ∧ p.length = n ∧ p = (l.take i).map rrow
set_option maxRecDepth 100000 in
set_option maxHeartbeats 1000000 in
theorem AppendSeq_fn {H : Hp} {a : Option Addr} {n cp bi : Nat} {l : List Rev} (hx : HRow H a n cp 3 (l.map rrow)) (hb : H bi 0 = some (.slice a n cp)) (hn : n < 1048576) :
    Fn Try.prog 90 [.slice none 0 0, valsV bi] H [] fun v _ I' => ∃ a' n' c', v = .slice a' n' c' ∧ I' = [.row (.slice a' n' c') 3 (l.map rrow)] := by
  have e1 : l.length = n := by have := hx.len; simpa using this
  refine Fn_ofM _ _ Try.func90 rfl Try.ntmps90 rfl fun c => ?_
  repeat' (first | refine O_nil ?_ | refine A_seq ?_ | refine A_region ?_ | refine A_block ?_ | (show opsA _ _ _ _ _ _ _; first | refine O_ev WideF.wide rfl (Ev_pure rfl) rfl rfl ?_ | (show opsA _ _ _ _ (⟨_, .box _ _, _, _, _, _⟩ :: _) _ _; (refine O_ef rfl (Ef_box1 WideF.wide rfl rfl rfl ?_); intro b))))
  obtain ⟨b2, hb2⟩ : ∃ b2, b2 = b := ⟨_, rfl⟩
  subst hb2
  refine A_nilrow 3 ?_
  refine A_sub (s' := ⟨13, [(6, valsV bi), (2, .pointer (some ⟨b2, 0, none⟩))], H, [.box b2 [.slice none 0 0], .row (.slice none 0 0) 3 []], [], []⟩) ⟨rfl, rfl, rfl, ⟨rfl, rfl, trivial⟩, Own.subi [1, 0] (by decide) rfl rfl⟩ ?_
  refine A_rangeFunc WideF.wide rfl (cap := [.pointer (some ⟨bi, 0, none⟩)]) (ps := [7]) rfl ?_
  intro dd lo r hr hps has hbo hsn he
  refine ⟨_, Values1_fn hx hb (by omega) (by rw [hps]; rfl) (apJ l b2) (fun _ _ _ => False) ⟨none, 0, 0, [], rfl, rfl, by simp⟩ ?_, ?_⟩
  · rintro i H2 I2 x hle2 ⟨la, ln, lc, p, rfl, hpl, hp⟩ hi hxi
    refine Round_of [] hr he hps has hbo hsn rfl ?_
    clear has hbo
    intro F hF c'
    have hpn : p.length ≤ n := by rw [hp, List.length_map, List.length_take]; omega
    have hone : ∀ u ∈ rrow x, u.oneCell' = true := fun u hu => rrow_one [x] (rrow x) (by simp) u hu
    have hsn2 : p ++ [rrow x] = (l.take (i + 1)).map rrow := by rw [hp, take_get hxi]; simp
    unfold rrow at hone hsn2 ⊢
    repeat' (first | refine O_nil ?_ | refine A_region ?_ | (show opsA _ _ _ _ _ _ _; first | (show opsA _ _ _ _ (⟨_, .alloc _, _, _, _, _⟩ :: _) _ _; (refine O_ef rfl (Ef_alloc hF rfl ?_); intro b)) | (show opsA _ _ _ _ (⟨_, .store _ _ _, _, _, _, _⟩ :: _) _ _; refine O_ef rfl (Ef_storew hF rfl rfl rfl rfl rfl ?_))))
    refine ⟨rfl, ?_⟩
    repeat' (first | refine O_nil ?_ | refine A_region ?_ | refine A_block ?_ | (show opsA _ _ _ _ _ _ _; first | (show opsA _ _ _ _ (⟨_, .load _ _, _, _, _, _⟩ :: _) _ _; first | refine O_ev hF rfl (Ev_loadB1 (i := 1) rfl rfl rfl) rfl rfl ?_ | refine O_ev hF rfl (Ev_loadB (i := 0) rfl rfl rfl) rfl rfl ?_) | (show opsA _ _ _ _ (⟨_, .call _, _, _, _, _⟩ :: _) _ _; (refine O_f3 (O_ef rfl (Ef_appendR hF rfl rfl rfl rfl rfl (by simp; omega) (by simp; omega) rfl ?_)); intro a cp)) | (show opsA _ _ _ _ (⟨_, .buildSlice _ _ _, _, _, _, _⟩ :: _) _ _; (refine O_ef rfl (Ef_build1a hF rfl rfl rfl rfl rfl ?_); intro b)) | (show opsA _ _ _ _ (⟨_, .store _ _ _, _, _, _, _⟩ :: _) _ _; refine O_f2 (O_ef rfl (Ef_store1 hF rfl rfl rfl rfl rfl ?_)))))
    refine RendN_to (s' := ⟨13, [], H2, [.box b2 [_], .row _ 3 _], [.obj lo (.loop (rbusy r))], []⟩) ⟨rfl, rfl, rfl, trivial, Own.subi [0, 1, 3] (by decide) rfl rfl⟩ rfl ?_
    exact ⟨_, _, rfl, .inl ⟨rfl, rfl, _, _, _, _, rfl, rfl, hsn2⟩⟩
  · rintro v H3 I3 hle3 ⟨r', M', rfl, ⟨rfl, la, ln, lc, p, rfl, hpl, hp⟩ | ⟨j, rfl, hE⟩⟩
    · refine ⟨_, _, rfl, by rw [hr.1]; simp, ?_⟩
      rw [hr.2]
      rw [← e1, List.take_length] at hp
      subst hp
      show wpA _ _ _ _ _ _ _ _
      repeat' (first | refine O_nil ?_ | refine A_seq ?_ | refine A_region ?_ | refine A_ret ?_ | (show opsA _ _ _ _ _ _ _; first | refine O_ev WideF.wide rfl (Ev_pure rfl) rfl rfl ?_ | (show opsA _ _ _ _ (⟨_, .load _ _, _, _, _, _⟩ :: _) _ _; refine O_ev WideF.wide rfl (Ev_loadB1 (i := 1) rfl rfl rfl) rfl rfl ?_)))
      refine Shift.lek ⟨13, [(4, .slice la ln lc)], H3, [.obj dd (.deferred (some [])), .row (.slice la ln lc) 3 (l.map rrow)], [], [rmark dd]⟩ ⟨rfl, rfl, rfl, ⟨rfl, trivial⟩, Own.subi [0, 2] (by decide) rfl rfl⟩ ?_
      refine EndM_s (Ret1 rfl rfl) ?_
      exact Shift.pure ⟨rfl, _, _, _, rfl, rfl⟩
    · exact hE.elim
set_option maxRecDepth 100000 in
theorem Collect_fn {H : Hp} {a : Option Addr} {n cp bi : Nat} {l : List Rev} (hx : HRow H a n cp 3 (l.map rrow)) (hb : H bi 0 = some (.slice a n cp)) (hn : n < 1048576) :
    Fn Try.prog 67 [valsV bi] H [] fun v _ I' => ∃ a' n' c', v = .slice a' n' c' ∧ I' = [.row (.slice a' n' c') 3 (l.map rrow)] := by
  refine Fn_of _ _ Try.func67 rfl Try.ntmps67 rfl fun c => ?_
  repeat' (first | (refine O_ef rfl (Ef_call (I := []) WideF.wide (AppendSeq_fn hx hb hn) ⟨rfl, rfl, trivial⟩ rfl ?_); rintro v H1 I1 hle1 ⟨a', n', c', rfl, rfl⟩) | refine O_nil ?_ | refine A_seq ?_ | refine A_region ?_ | refine A_ret ?_ | (show opsA _ _ _ _ _ _ _; refine O_ev WideF.wide rfl (Ev_pure rfl) rfl rfl ?_))
  exact End_m (Ret1 rfl rfl) ⟨_, _, _, rfl, rfl⟩
set_option maxRecDepth 100000 in
set_option maxHeartbeats 1000000 in
theorem stable_few {H : Hp} {ao : Option Addr} {no co : Nat} {l : List Rev} (hl : l.length = no) (hm : no < 20) :
    Fn Try.prog 91 [.slice ao no co, .int .i64 (no : Int), chronV] H [.row (.slice ao no co) 3 (l.map rrow)] fun v H' I' => v = .tuple #[] ∧ H' = H ∧ I' = [.row (.slice ao no co) 3 ((isort l).map rrow)] := by
  have hi := fun Hx => insSort_fn (H := Hx) (ao := ao) (no := no) (co := co) (lo := 0) (hi := no) (pre := []) (seg := l) (post := []) rfl (by omega) (by simp) (by omega)
  simp only [List.nil_append, List.append_nil] at hi
  refine Fn_of _ _ Try.func91 rfl Try.ntmps91 rfl fun c => ?_
  repeat' (first | refine O_nil ?_ | refine A_seq ?_ | refine A_region ?_ | refine A_block ?_ | (show opsA _ _ _ _ _ _ _; refine O_ev WideF.wide rfl (Ev_pure rfl) rfl rfl ?_))
  refine A_loopu (fun m st => m = 0 ∧ st = ⟨63, [(0, .slice ao no co), (1, .int .i64 (no : Int)), (2, chronV), (6, .int .i64 20), (7, .int .i64 0), (8, .int .i64 20)], H, [.row (.slice ao no co) 3 (l.map rrow)], [], []⟩) ?_ ?_
  · exact Shift.to ⟨_, rfl, rfl⟩ ⟨rfl, rfl, rfl, ⟨rfl, rfl, rfl, rfl, rfl, rfl, trivial⟩, Own.subi [0] (by decide) rfl rfl⟩
  rintro m st ⟨rfl, rfl⟩
  repeat' (first | (refine O_ef rfl (Ef_call (I := [_]) WideF.wide (hi _) ⟨rfl, rfl, rfl, rfl, trivial⟩ rfl ?_); rintro v H2 I2 hle2 ⟨rfl, rfl, rfl⟩) | refine O_nil ?_ | refine A_seq ?_ | refine A_region ?_ | refine A_block ?_ | (show opsA _ _ _ _ _ _ _; refine O_ev WideF.wide rfl (Ev_pure rfl) rfl rfl ?_) | (show wpA _ _ _ (.exit _) _ _ _ _; refine A_exit rfl ?_) | (show wpA _ _ _ (.cond _ _ _) _ _ _ _; (refine A_if rfl (fun h => ?_) (fun h => ?_) <;> try (exfalso; omega))))
  all_goals try (exfalso; omega)
  refine A_loopu (fun m st => m = 0 ∧ st = ⟨63, [(1, .int .i64 (no : Int)), (6, .int .i64 20)], H2, [.row (.slice ao no co) 3 ((isort l).map rrow)], [], []⟩) ?_ ?_
  · exact Shift.to ⟨_, rfl, rfl⟩ ⟨rfl, rfl, rfl, ⟨rfl, rfl, trivial⟩, Own.subi [0] (by decide) rfl rfl⟩
  rintro m st ⟨rfl, rfl⟩
  repeat' (first | refine O_nil ?_ | refine A_seq ?_ | refine A_region ?_ | (show opsA _ _ _ _ _ _ _; refine O_ev WideF.wide rfl (Ev_pure rfl) rfl rfl ?_) | (show wpA _ _ _ (.exit _) _ _ _ _; refine A_exit rfl ?_) | (show wpA _ _ _ (.cond _ _ _) _ _ _ _; (refine A_if rfl (fun h => ?_) (fun h => ?_) <;> try (exfalso; omega))))
  all_goals first
    | (exfalso; omega)
    | exact End_m (Ret0 rfl) ⟨rfl, rfl, rfl⟩
/-- what a stable sort of revisions does -/
def Stable (n : Nat) : Prop := ∀ (H : Hp) (ao : Option Addr) (no co : Nat) (l : List Rev), l.length = no → no ≤ n →
    Fn Try.prog 91 [.slice ao no co, .int .i64 (no : Int), chronV] H [.row (.slice ao no co) 3 (l.map rrow)] fun v H' I' => v = .tuple #[] ∧ H' = H ∧ I' = [.row (.slice ao no co) 3 ((isort l).map rrow)]
theorem stable19 : Stable 19 := fun H ao no co l hl hn => stable_few hl (by omega)
set_option maxRecDepth 100000 in
theorem SortStable_fn {k : Nat} (hS : Stable k) {H : Hp} {ao : Option Addr} {no co : Nat} {l : List Rev} (hl : l.length = no) (hm : no ≤ k) :
    Fn Try.prog 68 [.slice ao no co, chronV] H [.row (.slice ao no co) 3 (l.map rrow)] fun v H' I' => v = .tuple #[] ∧ H' = H ∧ I' = [.row (.slice ao no co) 3 ((isort l).map rrow)] := by
  have hi := fun Hx => hS Hx ao no co l hl hm
  refine Fn_of _ _ Try.func68 rfl Try.ntmps68 rfl fun c => ?_
  repeat' (first | (refine O_ef rfl (Ef_call (I := [_]) WideF.wide (hi _) ⟨rfl, rfl, rfl, trivial⟩ rfl ?_); rintro v H2 I2 hle2 ⟨rfl, rfl, rfl⟩) | refine O_nil ?_ | refine A_region ?_ | (show opsA _ _ _ _ _ _ _; first | refine O_ev WideF.wide rfl (Ev_pure rfl) rfl rfl ?_ | (show opsA _ _ _ _ (⟨_, .call _, _, _, _, _⟩ :: _) _ _; refine O_ev WideF.wide rfl (Ev_llen rfl) rfl rfl ?_)))
  exact End_m (Ret0 rfl) ⟨rfl, rfl, rfl⟩
set_option maxRecDepth 100000 in
theorem SortedStable_fn {k : Nat} (hS : Stable k) {H : Hp} {a : Option Addr} {n cp bi : Nat} {l : List Rev} (hx : HRow H a n cp 3 (l.map rrow)) (hb : H bi 0 = some (.slice a n cp)) (hn : n < 1048576) (hm : n ≤ k) :
    Fn Try.prog 47 [valsV bi, chronV] H [] (RevsIs (isort l)) := by
  have e1 : l.length = n := by have := hx.len; simpa using this
  refine Fn_of _ _ Try.func47 rfl Try.ntmps47 rfl fun c => ?_
  refine A_seq ?_
  refine A_region ?_
  refine O_ev WideF.wide rfl (Ev_pure rfl) rfl rfl ?_
  refine O_nil ?_
  refine A_seq ?_
  refine A_cutu (fun st => ∃ a' n' c' H1, HLe H H1 ∧ st = ⟨12, [(1, chronV), (5, .slice a' n' c')], H1, [.row (.slice a' n' c') 3 (l.map rrow)], [], []⟩) ?_ ?_
  · repeat' (first | (refine O_ef rfl (Ef_call (I := []) WideF.wide (Collect_fn hx hb hn) ⟨rfl, trivial⟩ rfl ?_); rintro v H1 I1 hle1 ⟨a', n', c', rfl, rfl⟩) | refine O_nil ?_ | refine A_region ?_ | (show opsA _ _ _ _ _ _ _; refine O_ev WideF.wide rfl (Ev_pure rfl) rfl rfl ?_))
    exact Shift.to ⟨_, _, _, _, hle1, rfl⟩ ⟨rfl, rfl, rfl, ⟨rfl, rfl, trivial⟩, Own.subi [0] (by decide) rfl rfl⟩
  rintro st ⟨a', n', c', H1, hle1, rfl⟩
  refine A_rowaddr (q := 0) rfl ?_
  intro r1 r2 r3 r4 r5
  rw [List.length_map] at r1
  have hso := fun Hx => SortStable_fn hS (H := Hx) (ao := a') (no := n') (co := c') (l := l) r1.symm (by omega)
  repeat' (first | (refine O_ef rfl (Ef_call (I := [_]) WideF.wide (hso _) ⟨rfl, rfl, trivial⟩ rfl ?_); rintro v H2 I2 hle2 ⟨rfl, rfl, rfl⟩) | refine O_nil ?_ | refine A_seq ?_ | refine A_region ?_ | refine A_ret ?_ | (show opsA _ _ _ _ _ _ _; refine O_ev WideF.wide rfl (Ev_pure rfl) rfl rfl ?_))
  exact End_row (Ret1 rfl rfl) (rrow_one _) fun H' hle hr => ⟨⟨_, _, _, rfl, hr⟩, rfl⟩
set_option maxRecDepth 100000 in
theorem Chronological_fn {k : Nat} (hS : Stable k) {H : Hp} {a : Option Addr} {n cp : Nat} {l : List Rev} (hx : HRow H a n cp 3 (l.map rrow)) (hn : n < 1048576) (hm : n ≤ k) :
    Fn Try.prog 35 [.slice a n cp] H [] (RevsIs (isort l)) := by
  have hso := fun Hx bi (hle : HLe H Hx) (hb : Hx bi 0 = some (.slice a n cp)) => SortedStable_fn hS (hx.mono hle) hb hn hm
  refine Fn_of _ _ Try.func35 rfl Try.ntmps35 rfl fun c => ?_
  repeat' (first | (refine O_ef rfl (Ef_call (I := []) WideF.wide Values_fn ⟨rfl, trivial⟩ rfl ?_); rintro v H1 I1 hle1 ⟨⟨bi, rfl, hb⟩, rfl⟩) | (refine O_ef rfl (Ef_call (I := []) WideF.wide (hso _ _ hle1 hb) ⟨rfl, rfl, trivial⟩ rfl ?_); rintro v H2 I2 hle2 ⟨⟨a', n', c', rfl, hr⟩, rfl⟩) | refine O_nil ?_ | refine A_seq ?_ | refine A_region ?_ | refine A_ret ?_ | (show opsA _ _ _ _ _ _ _; refine O_ev WideF.wide rfl (Ev_pure rfl) rfl rfl ?_))
  exact End_e (Ret1 rfl rfl) ⟨⟨_, _, _, rfl, hr⟩, rfl⟩
end Go.Proofs.Ytlcoebomgaodgaa
