/-
  run: items, and what a range over it does; Index.
-/
import Derived.Test.YthbnhcgphkghaaaR11
import Derived.Test.YthbnhcgphkghaaaA9
namespace Go.Proofs.Ythbnhcgphkghaaa
open Go
set_option linter.unusedVariables false
set_option linter.unusedSimpArgs false
attribute [local irreducible] wpA opsA drJ drQ drE Ef Ev Shift Fn

abbrev itemsV (b : Nat) : Value := .func (.func 75) #[] #[.pointer (some ⟨b, 0, none⟩)]
set_option maxRecDepth 100000 in
theorem items_fn {H : Hp} {a : Option Addr} {n cp : Nat} : Fn Try.prog 48 [.slice a n cp] H [] fun v H' I' => (∃ b, v = itemsV b ∧ H' b 0 = some (.slice a n cp)) ∧ I' = [] := by
  refine Fn_of _ _ Try.func48 rfl Try.ntmps48 rfl fun c => ?_
  repeat' (first | (refine O_freezeBox (by intro u hu; simp at hu; subst hu; rfl) ?_; intro H1 hle1 hc1; refine O_ev WideF.wide rfl (Ev_makeFunc (xs := []) (vs := []) (ys := [.tmp 1]) (us := [.pointer (some ⟨_, 0, none⟩)]) rfl rfl) rfl rfl ?_) | refine O_nil ?_ | refine A_seq ?_ | refine A_region ?_ | refine A_ret ?_ | (show opsA _ _ _ _ _ _ _; first | refine O_ev WideF.wide rfl (Ev_pure rfl) rfl rfl ?_ | (show opsA _ _ _ _ (⟨_, .box _ _, _, _, _, _⟩ :: _) _ _; (refine O_ef rfl (Ef_box1 WideF.wide rfl rfl rfl ?_); intro b))))
  refine End_e (Ret1 rfl rfl) ⟨⟨_, rfl, ?_⟩, rfl⟩
  exact hc1 0 _ rfl

/-- how a round of an iterator ends, and the iterator itself: J behind a round that went on, E j behind one that jumped by j -/
def rpost (lo : Nat) (r : Loop) (J : Hp → Own → Prop) (E : Code → Hp → Own → Prop) (v : Value) (H' : Hp) (I' : Own) : Prop :=
  ∃ r' M', I' = .obj lo (.loop r') :: M' ∧ ((v = .bool true ∧ r' = r ∧ J H' M') ∨ ∃ j, v = .bool false ∧ r' = rdone r j ∧ E j H' M')
def ipost (lo : Nat) (r : Loop) (J : Hp → Own → Prop) (E : Code → Hp → Own → Prop) (H' : Hp) (I' : Own) : Prop :=
  ∃ r' M', I' = .obj lo (.loop r') :: M' ∧ ((r' = r ∧ J H' M') ∨ ∃ j, r' = rdone r j ∧ E j H' M')

abbrev itSt (H : Hp) (lo b : Nat) (a : Option Addr) (n cp : Nat) (s : Int) (i : Nat) (r : Loop) (I : Own) : Sta := ⟨28, [(0, .func (.yield lo) #[] #[]), (3, .int .i64 s), (8, .slice a n cp), (9, .int .i64 n), (10, .int .i64 i)], H, .obj lo (.loop r) :: I, [], []⟩
set_option maxRecDepth 100000 in
theorem items1_fn {H : Hp} {a : Option Addr} {n cp b : Nat} {l : List Item} (hx0 : FlowH H a n cp l) (hb : H b 0 = some (.slice a n cp)) (hl : massL l < 1099511627776) {lo : Nat} {r : Loop} (hps : r.params.size = 2)
    (J : Nat → Hp → Own → Prop) (E : Code → Hp → Own → Prop) {I0 : Own} (h0 : J 0 H I0)
    (hround : ∀ i H1 I1 cs x, HLe H H1 → J i H1 I1 → i < n → l[i]? = some x → ItemH H1 cs x → RoundFn Try.prog lo r [.int .i64 (usum (l.take i)), .agg cs.toArray] H1 I1 (rpost lo r (J (i + 1)) E)) :
    Fn Try.prog 75 [.func (.yield lo) #[] #[], .pointer (some ⟨b, 0, none⟩)] H (.obj lo (.loop r) :: I0) fun _ H' I' => ipost lo r (J n) E H' I' := by
  have hn := hx0.len
  have hle := massL_len l
  refine Fn_of _ _ Try.func75 rfl Try.ntmps75 rfl fun c => ?_
  repeat' (first | refine O_nil ?_ | refine A_seq ?_ | refine A_region ?_ | refine A_block ?_ | (show opsA _ _ _ _ _ _ _; first | refine O_ev WideF.wide rfl (Ev_pure rfl) rfl rfl ?_ | (show opsA _ _ _ _ (⟨_, .load _ _, _, _, _, _⟩ :: _) _ _; refine O_ev WideF.wide rfl (Ev_loadH1 rfl (by assumption)) rfl rfl ?_) | (show opsA _ _ _ _ (⟨_, .call _, _, _, _, _⟩ :: _) _ _; refine O_ev WideF.wide rfl (Ev_llen rfl) rfl rfl ?_)))
  refine A_loopu (fun m s => ∃ (H1 : Hp) (I1 : Own) (i : Nat) (t : Int), m = n - i ∧ i ≤ n ∧ HLe H H1 ∧ J i H1 I1 ∧ t = usum (l.take i) ∧ s = itSt H1 lo b a n cp t i r I1) ?_ ?_
  · exact Shift.to ⟨_, H, I0, 0, 0, rfl, by omega, HLe.refl _, h0, by simp [usum], rfl⟩ ⟨rfl, rfl, rfl, ⟨rfl, rfl, rfl, rfl, rfl, trivial⟩, Own.sub_refl _⟩
  · rintro m s ⟨H1, I1, i, t, rfl, hi, hle1, hJ, ht, rfl⟩
    have hub := usum_b (l.take i)
    by_cases hlt : i < n
    · have hx := hx0.mono hle1
      obtain ⟨b', o, cs, x, rfl, hxi, hxc, hk, hc⟩ := hx.at i hlt
      have hm := massL_get hxi
      have hm2 := massL_mem hxi
      have hxb := x.units_b
      have hrd := hround i H1 I1 cs x hle1 hJ hlt hxi hxc
      rw [← ht] at hrd
      have ht2 : usum (l.take (i + 1)) = t + x.units := by rw [take_get hxi, usum_append, ht]; simp [usum]
      obtain ⟨pa, pn, pc, da, dn, dc, la, ln, lc, fa, fn, fc, ra, rn, rc, rfl, _⟩ := hxc.cells
      repeat' (first | (refine O_ef rfl (Ef_yield1 WideF.wide hrd rfl ⟨rfl, rfl, trivial⟩ hps rfl ?_); rintro v H2 I2 hle2 ⟨r', M', rfl, ⟨rfl, rfl, hJ2⟩ | ⟨j, rfl, rfl, hE2⟩⟩) | (refine O_ef rfl (Ef_callp WideF.wide (units_fn (hxc.mono hle2) (by omega)) ⟨rfl, trivial⟩ rfl ?_)) | refine O_nil ?_ | refine A_seq ?_ | refine A_region ?_ | refine A_skip ?_ | refine A_ret ?_ | refine A_block ?_ | (show opsA _ _ _ _ _ _ _; first | refine O_ev WideF.wide rfl (Ev_pure rfl) rfl rfl ?_ | (show opsA _ _ _ _ (⟨_, .load _ _, _, _, _, _⟩ :: _) _ _; first | refine O_ev WideF.wide rfl (Ev_loadB (i := 0) rfl rfl rfl) rfl rfl ?_ | refine O_ev WideF.wide rfl (Ev_loadH rfl (by assumption) (by rfl)) rfl rfl ?_) | (show opsA _ _ _ _ (⟨_, .indexAddr _ _ _, _, _, _, _⟩ :: _) _ _; refine O_ev WideF.wide rfl (Ev_indexAddr rfl rfl (by omega) (by omega)) rfl rfl ?_) | (show opsA _ _ _ _ (⟨_, .binOp _ _ _ _ _, _, _, _, _⟩ :: _) _ _; refine O_ev WideF.wide rfl (Ev_add rfl rfl (wi64 (by omega))) rfl rfl ?_) | (show opsA _ _ _ _ (⟨_, .unOp _ _ _, _, _, _, _⟩ :: _) _ _; refine O_ev WideF.wide rfl (Ev_notb rfl) rfl rfl ?_) | (show opsA _ _ _ _ (⟨_, .alloc _, _, _, _, _⟩ :: _) _ _; (refine O_ef rfl (Ef_alloc WideF.wide rfl ?_); intro b)) | (show opsA _ _ _ _ (⟨_, .store _ _ _, _, _, _, _⟩ :: _) _ _; refine O_ef rfl (Ef_storew WideF.wide rfl rfl rfl rfl rfl ?_))) | (show wpA _ _ _ (.cond _ _ _) _ _ _ _; first | (refine A_if rfl (fun h => ?_) (fun h => ?_) <;> try (exfalso; omega)) | refine A_iftrue rfl ?_ | refine A_iffalse rfl ?_))
      · exact Shift.to ⟨_, by omega, H2, M', i + 1, t + x.units, rfl, by omega, hle1.trans hle2, hJ2, ht2.symm, rfl⟩ ⟨rfl, rfl, rfl, ⟨rfl, rfl, rfl, rfl, rfl, trivial⟩, Own.sub_tail _ _⟩
      · exact Shift.lek ⟨28, [], H2, .obj lo (.loop (rdone r j)) :: M', [], []⟩ ⟨rfl, rfl, rfl, trivial, Own.sub_tail _ _⟩ (End_m (Ret0 rfl) ⟨_, _, rfl, .inr ⟨j, rfl, hE2⟩⟩)
    · have hin : n = i := by omega
      subst hin
      repeat' (first | refine O_nil ?_ | refine A_seq ?_ | refine A_region ?_ | (show opsA _ _ _ _ _ _ _; refine O_ev WideF.wide rfl (Ev_pure rfl) rfl rfl ?_) | (show wpA _ _ _ (.exit _) _ _ _ _; refine A_exit rfl ?_) | (show wpA _ _ _ (.cond _ _ _) _ _ _ _; (refine A_if rfl (fun h => ?_) (fun h => ?_) <;> try (exfalso; omega))))
      exact End_m (Ret0 rfl) ⟨_, _, rfl, .inl ⟨rfl, hJ⟩⟩

/-- the item of a unit -/
def IdxIs (l : List Item) (at_ : Int) (v : Value) : Prop :=
  (¬ okL l ∧ v = .tuple [.int .i64 0, .int .i64 0, .int .i64 12].toArray) ∨
  (okL l ∧ (at_ < 0 ∨ usum l ≤ at_) ∧ v = .tuple [.int .i64 0, .int .i64 0, .int .i64 2].toArray) ∨
  (okL l ∧ 0 ≤ at_ ∧ ∃ i : Nat, i < l.length ∧ usum (l.take i) ≤ at_ ∧ at_ < usum (l.take (i + 1)) ∧ v = .tuple [.int .i64 i, .int .i64 (at_ - usum (l.take i)), .int .i64 0].toArray)
theorem usum_take_le (l : List Item) (i : Nat) : usum (l.take i) ≤ usum l := by
  have h := usum_append (l.take i) (l.drop i)
  rw [List.take_append_drop] at h
  have := usum_b (l.drop i)
  omega
abbrev ixEnv (b3 b4 b5 b6 b8 : Nat) : Env := [(3, .pointer (some ⟨b3, 0, none⟩)), (4, .pointer (some ⟨b4, 0, none⟩)), (5, .pointer (some ⟨b5, 0, none⟩)), (6, .pointer (some ⟨b6, 0, none⟩)), (8, .pointer (some ⟨b8, 0, none⟩))]
abbrev ixOwn (at_ k v4 v5 v6 : Int) (b3 b4 b5 b6 b8 : Nat) : Own := [.box b8 [.int .i64 k], .box b3 [.int .i64 at_], .box b4 [.int .i64 v4], .box b5 [.int .i64 v5], .box b6 [.int .i64 v6]]
set_option maxRecDepth 100000 in
theorem Index_fn {H : Hp} {a : Option Addr} {n cp : Nat} {l : List Item} {at_ : Int} (hx0 : FlowH H a n cp l) (hl : massL l < 1099511627776) (hat : -9223372036854775808 ≤ at_ ∧ at_ < 9223372036854775808) : Fn Try.prog 17 [.slice a n cp, .int .i64 at_] H [] fun v _ I' => IdxIs l at_ v ∧ I' = [] := by
  have hn := hx0.len
  have hlen := Len_fn hx0 (by omega)
  have hub := usum_b l
  have hml := massL_len l
  have hE : lenE l = 0 ↔ okL l := by unfold lenE; split <;> simp [*]
  have hV : okL l → lenV l = usum l := fun h => by unfold lenV; rw [if_pos h]
  refine Fn_ofM _ _ Try.func17 rfl Try.ntmps17 rfl fun c => ?_
  repeat' (first | (refine O_ef rfl (Ef_callp WideF.wide hlen ⟨rfl, trivial⟩ rfl ?_)) | (refine O_ef rfl (Ef_call (I := []) WideF.wide items_fn ⟨rfl, trivial⟩ rfl ?_); rintro v H1 I1 hle1 ⟨⟨bi, rfl, hbi⟩, rfl⟩) | refine O_nil ?_ | refine A_seq ?_ | refine A_region ?_ | refine A_skip ?_ | refine A_ret ?_ | refine A_block ?_ | (show opsA _ _ _ _ _ _ _; first | (refine O_split rfl rfl (fun h => ?_) (fun h => ?_) <;> try (exfalso; omega)) | refine O_ev WideF.wide rfl (Ev_pure rfl) rfl rfl ?_ | (show opsA _ _ _ _ (⟨_, .load _ _, _, _, _, _⟩ :: _) _ _; first | refine O_ev WideF.wide rfl (Ev_loadB1 (i := 0) rfl rfl rfl) rfl rfl ?_ | refine O_ev WideF.wide rfl (Ev_loadB1 (i := 3) rfl rfl rfl) rfl rfl ?_) | (show opsA _ _ _ _ (⟨_, .alloc _, _, _, _, _⟩ :: _) _ _; (refine O_ef rfl (Ef_alloc WideF.wide rfl ?_); intro b)) | (show opsA _ _ _ _ (⟨_, .box _ _, _, _, _, _⟩ :: _) _ _; (refine O_ef rfl (Ef_box1 WideF.wide rfl rfl rfl ?_); intro b)) | (show opsA _ _ _ _ (⟨_, .store _ _ _, _, _, _, _⟩ :: _) _ _; first | refine O_ef rfl (Ef_store1 WideF.wide rfl rfl rfl rfl rfl ?_) | refine O_f2 (O_ef rfl (Ef_store1 WideF.wide rfl rfl rfl rfl rfl ?_))) | refine O_skip WideF.wide rfl rfl rfl ?_) | (show wpA _ _ _ (.cond _ _ _) _ _ _ _; first | (refine A_if rfl (fun h => ?_) (fun h => ?_) <;> try (exfalso; omega)) | refine A_iftrue rfl ?_))
  · rename_i h
    have hno : ¬ okL l := fun hh => h (hE.2 hh)
    have h12 : lenE l = 12 := by unfold lenE; rw [if_neg hno]
    (refine A_drawi WideF.wide (.q 0 (.e 1 (.e 2 (.done [3])))) [3] [1, 2] [0] (by decide +kernel) (by decide) rfl ?_; simp only [Own.picks, Own.rget, List.cons_append, List.nil_append, List.append_nil])
    repeat' (first | refine O_nil ?_ | refine A_ret ?_ | (show drJ _ _ _ _ _ _ _ (.q _ _) _; refine D_q rfl ?_) | (show drJ _ _ _ _ _ _ _ (.e _ _) _; refine D_e rfl ?_) | (show drJ _ _ _ _ _ _ _ (.done _) _; refine D_done ?_; simp only [List.cons_append, List.nil_append]) | (show drQ _ _ _ _ _ _; (show drQ _ _ _ ⟨_, .load _ _, _, _, _, _⟩ _ _; refine D_ev rfl (Ev_loadB1 (i := 0) rfl rfl rfl) rfl rfl ?_)) | (show drE _ _ _ _ _ _ _; (show drE _ _ _ _ ⟨_, .store _ _ _, _, _, _, _⟩ _ _; (refine E_ef rfl (Ef_f1 (Ef_store1 WideF.wide rfl rfl rfl rfl rfl ?_)); refine ⟨Grow.same rfl rfl, ?_⟩))) | (show opsA _ _ _ _ _ _ _; (show opsA _ _ _ _ (⟨_, .store _ _ _, _, _, _, _⟩ :: _) _ _; refine O_f2 (O_ef rfl (Ef_store1 WideF.wide rfl rfl rfl rfl rfl ?_)))))
    refine EndM_of (End_e (RetR3 (v1 := .int .i64 0) (v2 := .int .i64 0) (v3 := .int .i64 (lenE l)) rfl ⟨_, 2, rfl, rfl, ⟨inferInstance⟩⟩ ⟨_, 1, rfl, rfl, ⟨inferInstance⟩⟩ ⟨_, 0, rfl, rfl, ⟨inferInstance⟩⟩) ⟨.inl ⟨hno, ?_⟩, rfl⟩)
    rw [h12]
  · have hok := hE.1 (by omega)
    exact EndM_of (End_e (RetR3 (v1 := .int .i64 0) (v2 := .int .i64 0) (v3 := .int .i64 2) rfl ⟨_, 2, rfl, rfl, ⟨inferInstance⟩⟩ ⟨_, 1, rfl, rfl, ⟨inferInstance⟩⟩ ⟨_, 0, rfl, rfl, ⟨inferInstance⟩⟩) ⟨.inr (.inl ⟨hok, .inl (by assumption), rfl⟩), rfl⟩)
  · have hok := hE.1 (by omega)
    have hv := hV hok
    exact EndM_of (End_e (RetR3 (v1 := .int .i64 0) (v2 := .int .i64 0) (v3 := .int .i64 2) rfl ⟨_, 2, rfl, rfl, ⟨inferInstance⟩⟩ ⟨_, 1, rfl, rfl, ⟨inferInstance⟩⟩ ⟨_, 0, rfl, rfl, ⟨inferInstance⟩⟩) ⟨.inr (.inl ⟨hok, .inr (by omega), rfl⟩), rfl⟩)
  · have hok := hE.1 (by omega)
    have hv := hV hok
    rename_i b3 b4 b5 b6 _ _
    obtain ⟨b8, hb8⟩ : ∃ b8, b8 = b := ⟨_, rfl⟩
    subst hb8
    refine A_sub (s' := ⟨50, (31, itemsV bi) :: ixEnv b3 b4 b5 b6 b8, H1, ixOwn at_ 0 0 0 (lenE l) b3 b4 b5 b6 b8, [], []⟩) ⟨rfl, rfl, rfl, ⟨rfl, rfl, rfl, rfl, rfl, rfl, trivial⟩, Own.subi [0, 4, 3, 2, 1] (by decide) rfl rfl⟩ ?_
    refine A_rangeFunc WideF.wide rfl (cap := [.pointer (some ⟨bi, 0, none⟩)]) (ps := [32, 33]) rfl ?_
    intro dd lo r hr hps has hbo hsn he
    refine ⟨_, items1_fn (hx0.mono hle1) hbi hl (by rw [hps]; rfl) (fun i _ I2 => usum (l.take i) ≤ at_ ∧ I2 = ixOwn at_ i 0 0 (lenE l) b3 b4 b5 b6 b8)
      (fun j _ I2 => j = .ret ∧ ∃ (i : Nat) (v5 : Int), i < l.length ∧ usum (l.take i) ≤ at_ ∧ at_ < usum (l.take (i + 1)) ∧ v5 = at_ - usum (l.take i) ∧ I2 = ixOwn at_ i i v5 0 b3 b4 b5 b6 b8) ⟨by simp [usum]; omega, rfl⟩ ?_, ?_⟩
    · rintro i H2 I2 cs x hle2 ⟨hus, rfl⟩ hi hxi hxc
      refine Round_of [] hr he hps has hbo hsn rfl ?_
      clear has hbo
      intro F hF c'
      have hm := massL_get hxi
      have hm2 := massL_mem hxi
      have hxb := x.units_b
      have hub2 := usum_b (l.take i)
      have hu := units_fn hxc (by omega)
      have ht2 : usum (l.take (i + 1)) = usum (l.take i) + x.units := by rw [take_get hxi, usum_append]; simp [usum]
      generalize ht : usum (l.take i) = t at *
      obtain ⟨pa, pn, pc, da, dn, dc, la, ln, lc, fa, fn, fc, ra, rn, rc, rfl, _⟩ := hxc.cells
      repeat' (first | refine O_nil ?_ | refine A_seq ?_ | refine A_region ?_ | (show opsA _ _ _ _ _ _ _; first | refine O_ev hF rfl (Ev_pure rfl) rfl rfl ?_ | (show opsA _ _ _ _ (⟨_, .alloc _, _, _, _, _⟩ :: _) _ _; (refine O_ef rfl (Ef_alloc hF rfl ?_); intro b)) | (show opsA _ _ _ _ (⟨_, .store _ _ _, _, _, _, _⟩ :: _) _ _; refine O_ef rfl (Ef_storew hF rfl rfl rfl rfl rfl ?_))))
      refine ⟨rfl, ?_⟩
      repeat' (first | (refine O_ef rfl (Ef_callp hF hu ⟨rfl, trivial⟩ rfl ?_)) | refine O_nil ?_ | refine A_seq ?_ | refine A_region ?_ | refine A_skip ?_ | refine A_block ?_ | (show opsA _ _ _ _ _ _ _; first | refine O_ev hF rfl (Ev_pure rfl) rfl rfl ?_ | (show opsA _ _ _ _ (⟨_, .load _ _, _, _, _, _⟩ :: _) _ _; first | refine O_ev hF rfl (Ev_loadB1 (i := 1) rfl rfl rfl) rfl rfl ?_ | refine O_ev hF rfl (Ev_loadB1 (i := 2) rfl rfl rfl) rfl rfl ?_ | refine O_ev hF rfl (Ev_loadB (i := 0) rfl rfl rfl) rfl rfl ?_) | (show opsA _ _ _ _ (⟨_, .binOp _ _ _ _ _, _, _, _, _⟩ :: _) _ _; refine O_ev hF rfl (Ev_add rfl rfl (wi64 (by omega))) rfl rfl ?_) | (show opsA _ _ _ _ (⟨_, .store _ _ _, _, _, _, _⟩ :: _) _ _; refine O_f1 (O_ef rfl (Ef_store1 hF rfl rfl rfl rfl rfl ?_)))) | (show wpA _ _ _ (.cond _ _ _) _ _ _ _; (refine A_if rfl (fun h => ?_) (fun h => ?_) <;> try (exfalso; omega))))
      · (refine A_drawi hF (.q 0 (.q 1 (.q 2 (.q 3 (.e 4 (.done [5, 6])))))) [5, 6] [3, 4, 5] [1, 2] (by decide +kernel) (by decide) rfl ?_; simp only [Own.picks, Own.rget, List.cons_append, List.nil_append, List.append_nil])
        repeat' (first | refine O_nil ?_ | refine A_ret ?_ | (show drJ _ _ _ _ _ _ _ (.q _ _) _; refine D_q rfl ?_) | (show drJ _ _ _ _ _ _ _ (.e _ _) _; refine D_e rfl ?_) | (show drJ _ _ _ _ _ _ _ (.done _) _; refine D_done ?_; simp only [List.cons_append, List.nil_append]) | (show drQ _ _ _ _ _ _; first | refine D_ev rfl (Ev_pure rfl) rfl rfl ?_ | (show drQ _ _ _ ⟨_, .load _ _, _, _, _, _⟩ _ _; first | refine D_ev rfl (Ev_loadB1 (i := 0) rfl rfl rfl) rfl rfl ?_ | refine D_ev rfl (Ev_loadB1 (i := 1) rfl rfl rfl) rfl rfl ?_) | (show drQ _ _ _ ⟨_, .binOp _ _ _ _ _, _, _, _, _⟩ _ _; refine D_ev rfl (Ev_sub rfl rfl (wi64 (by omega))) rfl rfl ?_)) | (show drE _ _ _ _ _ _ _; (show drE _ _ _ _ ⟨_, .store _ _ _, _, _, _, _⟩ _ _; (refine E_ef rfl (Ef_store1 hF rfl rfl rfl rfl rfl ?_); refine ⟨Grow.same rfl rfl, ?_⟩))) | (show opsA _ _ _ _ _ _ _; (show opsA _ _ _ _ (⟨_, .store _ _ _, _, _, _, _⟩ :: _) _ _; first | refine O_f1 (O_ef rfl (Ef_store1 hF rfl rfl rfl rfl rfl ?_)) | refine O_f2 (O_ef rfl (Ef_store1 hF rfl rfl rfl rfl rfl ?_)))))
        exact Shift.to (s' := ⟨50, [], H2, ixOwn at_ i i (at_ - t) 0 b3 b4 b5 b6 b8, [.obj lo (.loop (rbusy r))], []⟩) ⟨rfl, _, _, rfl, .inr ⟨_, rfl, rfl, rfl, i, at_ - t, by omega, by omega, by omega, by omega, rfl⟩⟩ ⟨rfl, rfl, rfl, trivial, Own.subi [3, 4, 2, 1, 0, 5] (by decide) rfl rfl⟩
      · exact Shift.to (s' := ⟨50, [], H2, ixOwn at_ (i + 1 : Nat) 0 0 (lenE l) b3 b4 b5 b6 b8, [.obj lo (.loop (rbusy r))], []⟩) ⟨rfl, _, _, rfl, .inl ⟨rfl, rfl, by omega, rfl⟩⟩ ⟨rfl, rfl, rfl, trivial, Own.subi [0, 2, 3, 4, 5, 6] (by decide) rfl rfl⟩
    · rintro v H3 I3 hle3 ⟨r', M', rfl, ⟨rfl, hus, rfl⟩ | ⟨j, rfl, rfl, i, v5, h1, h2, h3, rfl, rfl⟩⟩
      · exfalso
        rw [← hn, List.take_length] at hus
        omega
      · refine ⟨_, _, rfl, by simp [rdone], ?_⟩
        refine A_ret ?_
        refine EndM_e (RetR3 (v1 := .int .i64 i) (v2 := .int .i64 (at_ - usum (l.take i))) (v3 := .int .i64 0) rfl ⟨_, 2, rfl, rfl, ⟨inferInstance⟩⟩ ⟨_, 3, rfl, rfl, ⟨inferInstance⟩⟩ ⟨_, 4, rfl, rfl, ⟨inferInstance⟩⟩) ⟨.inr (.inr ⟨hok, by omega, i, h1, h2, h3, rfl⟩), rfl⟩
end Go.Proofs.Ythbnhcgphkghaaa
