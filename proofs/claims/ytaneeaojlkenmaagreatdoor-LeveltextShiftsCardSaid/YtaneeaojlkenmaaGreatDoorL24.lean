/-
  LeveltextShifts: what the levels of a text become, and back (plain Lean).
-/
import Derived.Test.YtaneeaojlkenmaaGreatDoorL22
import Derived.Test.YtaneeaojlkenmaaGreatDoorL23
namespace Go.Proofs.YtaneeaojlkenmaaGreatDoor
open Go
set_option linter.unusedVariables false
set_option linter.unusedSimpArgs false
theorem inc_first {l : List Int} (h : l.Pairwise (· < ·)) {a x : Int} (ha : l[0]? = some a) (hx : x ∈ l) : a ≤ x := by
  cases l with
  | nil => cases hx
  | cons b l =>
    simp at ha; subst ha
    rcases List.mem_cons.1 hx with rfl | hx
    · exact Int.le_refl _
    · exact Int.le_of_lt ((List.pairwise_cons.1 h).1 x hx)
theorem inc_last {l : List Int} (h : l.Pairwise (· < ·)) {a x : Int} (ha : l[l.length - 1]? = some a) (hx : x ∈ l) : x ≤ a := by
  obtain ⟨i, hi, rfl⟩ := List.mem_iff_getElem.1 hx
  obtain ⟨hl, rfl⟩ := List.getElem?_eq_some_iff.1 ha
  rcases Nat.lt_or_ge i (l.length - 1) with hc | hc
  · exact Int.le_of_lt (List.pairwise_iff_getElem.1 h i (l.length - 1) hi hl hc)
  · have : i = l.length - 1 := by omega
    subst this; exact Int.le_refl _
theorem bad_iff {ps : List Pt} {q u w : Int} (hok : ∀ p ∈ ps, PartOk p) (hu : (usedL ps)[0]? = some u) (hw : (usedL ps)[(usedL ps).length - 1]? = some w) :
    (∃ p ∈ ps, badS q p) ↔ 8 < q ∨ q < -8 ∨ u + q < 1 ∨ 9 < w + q := by
  have hi := usedL_inc ps
  obtain ⟨u1, u2, p0, hp0, hl0⟩ := mem_usedL.1 (List.mem_of_getElem? hu)
  obtain ⟨w1, w2, p1, hp1, hl1⟩ := mem_usedL.1 (List.mem_of_getElem? hw)
  constructor
  · rintro ⟨p, hp, h0, hb⟩
    have hr : 1 ≤ p.lev ∧ p.lev ≤ 9 := (hok p hp).elim (fun h => absurd h h0) id
    have hm : p.lev ∈ usedL ps := mem_usedL.2 ⟨hr.1, hr.2, p, hp, rfl⟩
    have h1 := inc_first hi hu hm
    have h2 := inc_last hi hw hm
    omega
  · intro h
    by_cases h1 : u + q < 1
    · exact ⟨p0, hp0, by rw [hl0]; omega, by rw [hl0]; omega⟩
    · by_cases h2 : 9 < w + q
      · exact ⟨p1, hp1, by rw [hl1]; omega, by rw [hl1]; omega⟩
      · rcases h with h | h | h | h
        · exact ⟨p0, hp0, by rw [hl0]; omega, by rw [hl0]; omega⟩
        · exact ⟨p1, hp1, by rw [hl1]; omega, by rw [hl1]; omega⟩
        · exact absurd h h1
        · exact absurd h h2
theorem used_none {ps : List Pt} (hok : ∀ p ∈ ps, PartOk p) (h : usedL ps = []) : ∀ p ∈ ps, p.lev = 0 := fun p hp => by
  rcases hok p hp with h0 | ⟨h1, h2⟩
  · exact h0
  · have : p.lev ∈ usedL ps := mem_usedL.2 ⟨h1, h2, p, hp, rfl⟩
    rw [h] at this; cases this
theorem shf_none {ps : List Pt} {q : Int} (h : ∀ p ∈ ps, p.lev = 0) : ps.map (shf q) = ps := by
  have : ps.map (shf q) = ps.map id := List.map_congr_left fun p hp => by unfold shf; rw [if_pos (h p hp)]; rfl
  rw [this, List.map_id]
theorem shf_place {p : Pt} {q : Int} (h : PlaceOk p) (hb : ¬ badS q p) : shf q p = ⟨p.lit, p.lev + q, p.plain⟩ ∧ PlaceOk (shf q p) := by
  obtain ⟨h1, h2, h3⟩ := h
  have e : shf q p = ⟨p.lit, p.lev + q, p.plain⟩ := by unfold shf; rw [if_neg (by omega)]
  rw [e]
  have : ¬ (q < 1 - p.lev ∨ 9 - p.lev < q) := fun h => hb ⟨by omega, h⟩
  exact ⟨rfl, h1, by show 1 ≤ p.lev + q; omega, by show p.lev + q ≤ 9; omega⟩
theorem shf_lit {p : Pt} {q : Int} (h : LitOk p) : shf q p = p := by unfold shf; rw [if_pos h.2.1]
theorem shf_norm {q : Int} : ∀ {b : Bool} {l : List Pt}, Norm b l → (∀ p ∈ l, ¬ badS q p) → Norm b (l.map (shf q)) := by
  intro b l h
  induction h with
  | nil b => intro _; exact .nil b
  | place hp _ ih =>
    intro hb
    rw [List.map_cons]
    exact .place (shf_place hp (hb _ List.mem_cons_self)).2 (ih fun p hp => hb p (List.mem_cons_of_mem _ hp))
  | lit hp _ ih =>
    intro hb
    rw [List.map_cons, shf_lit hp]
    exact .lit hp (ih fun p hp => hb p (List.mem_cons_of_mem _ hp))
theorem ctrl_dig {b : UInt8} (h : dig b) : ¬ ctrl b := by unfold dig at h; unfold ctrl; omega
theorem ctrl_plc {p : Pt} (h : PlaceOk p) : ∀ b ∈ plc p, ¬ ctrl b := by
  intro b hb
  unfold plc at hb
  rcases List.mem_append.1 hb with hb | hb
  · have : b = 37 ∨ b = 100 := by
      split at hb
      · simpa using hb
      · left; simpa using hb
    rcases this with rfl | rfl <;> (unfold ctrl; decide)
  · rw [List.mem_singleton] at hb
    subst hb
    exact ctrl_dig (ldig_dig h.2).1
theorem shf_text {q : Int} : ∀ {b : Bool} {l : List Pt}, Norm b l → (∀ p ∈ l, ¬ badS q p) → Asc2 (txt l) (txt (l.map (shf q))) ∧ (control (txt l) ↔ control (txt (l.map (shf q)))) ∧ places (l.map (shf q)) = places l ∧ (l.map (shf q)).map (shf (0 - q)) = l := by
  intro b l h
  induction h with
  | nil b => intro _; exact ⟨.nil, Iff.rfl, rfl, rfl⟩
  | place hp _ ih =>
    rename_i p l _
    intro hb
    obtain ⟨i1, i2, i3, i4⟩ := ih fun p hp => hb p (List.mem_cons_of_mem _ hp)
    obtain ⟨e, hp'⟩ := shf_place hp (hb p List.mem_cons_self)
    have t1 : ∀ (r : Pt) m, txt (r :: m) = wrt r ++ txt m := fun r m => by unfold txt; rw [List.flatMap_cons]
    have p1 : ∀ (r : Pt) m, PlaceOk r → places (r :: m) = places m + 1 := fun r m hr => by unfold places; rw [List.filter_cons, if_pos (by have := hr.2.1; simp; omega)]; rfl
    have c1 : ∀ (r : Pt) m, PlaceOk r → (control (plc r ++ m) ↔ control m) := fun r m hr => by
      rw [control_iff, control_iff]
      constructor
      · rintro ⟨b, hb, hc⟩
        rcases List.mem_append.1 hb with hb | hb
        · exact absurd hc (ctrl_plc hr b hb)
        · exact ⟨b, hb, hc⟩
      · rintro ⟨b, hb, hc⟩
        exact ⟨b, List.mem_append_right _ hb, hc⟩
    rw [List.map_cons, t1, t1, wrt_place hp, wrt_place hp', c1 _ _ hp, c1 _ _ hp', p1 _ _ hp', p1 _ _ hp, i3]
    refine ⟨Asc2.app ?_ i1, i2, rfl, ?_⟩
    · have d1 := (ldig_dig hp.2).1
      have d2 := (ldig_dig hp'.2).1
      unfold dig at d1 d2
      unfold plc
      rw [e] at d2 ⊢
      exact Asc2.app (Asc2.refl _) (.diff (by omega) (by omega) .nil)
    · rw [List.map_cons, i4]
      congr 1
      rw [e]
      have := hp'.2.1
      rw [e] at this
      unfold shf
      rw [if_neg (by show ¬ p.lev + q = 0; have : 1 ≤ p.lev + q := this; omega)]
      obtain ⟨a, b, c⟩ := p
      show Pt.mk a (b + q + (0 - q)) c = ⟨a, b, c⟩
      congr 1
      omega
  | lit hp _ ih =>
    rename_i p l _
    intro hb
    obtain ⟨i1, i2, i3, i4⟩ := ih fun p hp => hb p (List.mem_cons_of_mem _ hp)
    have t1 : ∀ (r : Pt) m, txt (r :: m) = wrt r ++ txt m := fun r m => by unfold txt; rw [List.flatMap_cons]
    have p1 : ∀ m, places (p :: m) = places m := fun m => by unfold places; rw [List.filter_cons, if_neg (by have := hp.2.1; simp; omega)]
    rw [List.map_cons, shf_lit hp, t1, t1, p1, p1, List.map_cons, shf_lit hp, i4]
    refine ⟨Asc2.app (Asc2.refl _) i1, ?_, i3, rfl⟩
    rw [control_iff, control_iff] at i2 ⊢
    constructor
    · rintro ⟨b, hb, hc⟩
      rcases List.mem_append.1 hb with hb | hb
      · exact ⟨b, List.mem_append_left _ hb, hc⟩
      · obtain ⟨b', hb', hc'⟩ := i2.1 ⟨b, hb, hc⟩
        exact ⟨b', List.mem_append_right _ hb', hc'⟩
    · rintro ⟨b, hb, hc⟩
      rcases List.mem_append.1 hb with hb | hb
      · exact ⟨b, List.mem_append_left _ hb, hc⟩
      · obtain ⟨b', hb', hc'⟩ := i2.2 ⟨b, hb, hc⟩
        exact ⟨b', List.mem_append_right _ hb', hc'⟩
/-- what is shifted reads as the parts shifted; shifted back it is what it was -/
theorem tplE_shift {s : List UInt8} {ps : List Pt} {q : Int} (h : tplE s = (ps, 0)) (hb : ∀ p ∈ ps, ¬ badS q p) :
    tplE (txtP (ps.map (shf q))) = (ps.map (shf q), 0) ∧ shiftE (txtP (ps.map (shf q))) (0 - q) = (s, 0) := by
  obtain ⟨g1, g2, g3⟩ := tplE_ok h
  obtain ⟨n1, n2⟩ := tplE_norm h
  obtain ⟨a1, a2, a3, a4⟩ := shf_text n2 hb
  have n3 := shf_norm n2 hb
  have ht := scn_txt n3
  have e1 : txtP (ps.map (shf q)) = txt (ps.map (shf q)) := txtP_ok (norm_ok n3)
  have e2 : txtP ps = s := (txtP_ok (norm_ok n2)).trans n1
  rw [n1] at a1 a2
  have hd := h
  rw [tplE_def, if_neg (by omega)] at hd
  by_cases hv : valid s
  · rw [if_neg (fun h => h hv)] at hd
    by_cases hc : control s
    · rw [if_pos hc] at hd; cases hd
    · have key : tplE (txtP (ps.map (shf q))) = (ps.map (shf q), 0) := by
        rw [e1, tplE_def, if_neg (by rw [← a1.len]; omega), if_neg (fun h => h ((a1.valid []).1 hv)), if_neg (fun h => hc (a2.2 h)), ht]
        dsimp only
        rw [if_neg (by rw [a3]; omega)]
      refine ⟨key, ?_⟩
      unfold shiftE
      rw [key]
      dsimp only
      rw [if_neg (by simp), if_neg, a4, e2]
      rintro ⟨p, hp, h0, hbb⟩
      obtain ⟨r, hr, rfl⟩ := List.mem_map.1 hp
      have hbr := hb r hr
      unfold badS at hbr
      have hrk := norm_ok n2 r hr
      unfold PartOk at hrk
      unfold shf at h0 hbb
      by_cases hz : r.lev = 0
      · rw [if_pos hz] at h0; exact h0 hz
      · rw [if_neg hz] at hbb
        have : -q < 1 - (r.lev + q) ∨ 9 - (r.lev + q) < -q := by simpa using hbb
        omega
  · rw [if_pos (fun h => hv h)] at hd; cases hd
/-- the levels that the reference finds, and the parts lent -/
def LoanI (ps : List Pt) (a : Option Addr) (c : Nat) (Hx : Hp) (v : Value) (H' : Hp) (I' : Own) : Prop :=
  ∃ a4 c4, v = .slice a4 (usedL ps).length c4 ∧ H' = Hx ∧ I' = [.row (.slice a4 (usedL ps).length c4) 1 ((usedL ps).map irow), .row (.slice a ps.length c) 3 (ps.map prow)]
attribute [local irreducible] wpA opsA drJ drQ drE Ef Ev Shift Fn
set_option maxRecDepth 100000 in
set_option maxHeartbeats 2000000 in
theorem LeveltextShifts_fn {H : Hp} (hE : EnvH H) (hM : MaxH H) {s : List UInt8} {q : Int} (hq : I64 q) : Fn Tryz.prog 9 [sv s, .int .i64 q] H [] fun v _ I => v = .bool true ∧ I = [] := by
  have hc := fun Hx => mcut_fn (H := Hx) (s := s)
  have h1 := fun Hx (h : HLe H Hx) => Shift_fn (hM.mono h) (take80 s) hq
  have h2 := fun Hx => rParse_own (H := Hx) (take80 s)
  have hk := fun Hx (h : HLe H Hx) => known_fn (hE.mono h)
  have hpl := parts_len (s := s.take 80)
  have hpo := parts_ok (s := s.take 80)
  have hsh := fun he hb => tplE_shift (s := s.take 80) (ps := (tplE (s.take 80)).1) (q := q) he hb
  unfold ParseO at h2
  unfold shiftV at h1
  have hse : shiftE (s.take 80) q = _ := rfl
  conv at hse => rhs; unfold shiftE
  have hps : tplE (s.take 80) = ((tplE (s.take 80)).1, 0) → txtP (tplE (s.take 80)).1 = s.take 80 := fun h => (txtP_ok (norm_ok (tplE_norm h).2)).trans (tplE_norm h).1
  generalize tplE (s.take 80) = t at *
  obtain ⟨ps, e⟩ := t
  dsimp only at h2 hpl hpo hsh hse hps
  have hus := fun Hx a c => Fn.mono (post' := LoanI ps a c Hx) (Fn.loan (H := Hx) (a := a) (n := ps.length) (c := c) (k := 3) (prow_one ps) (fun H1 _ hr => rUsed_own hr (by omega))) fun v H' I' ⟨J, ⟨a4, c4, e1, e2⟩, e3, e4⟩ => ⟨a4, c4, e1, e3, by rw [e4, e2]; rfl⟩
  unfold LoanI at hus
  by_cases he : e = 0
  · subst he
    rw [if_neg (by simp)] at hse
    by_cases hu0 : usedL ps = []
    · have hz := used_none hpo hu0
      rw [if_neg (fun ⟨p, hp, h0, _⟩ => h0 (hz p hp)), shf_none hz, hps rfl] at hse
      rw [hse] at h1
      dsimp only at h1
      rw [hu0] at hus
      dsimp only [List.map_nil, List.length_nil] at hus
      refine Fn_of _ _ Tryz.func9 rfl Tryz.ntmps9 rfl fun c => ?_
      repeat' (first | (refine O_ef rfl (Ef_callp WideF.wide (hc _) ⟨rfl, trivial⟩ rfl ?_)) | (refine O_ef rfl (Ef_call (I := []) WideF.wide (h1 _ (HLe.refl _)) ⟨rfl, rfl, trivial⟩ rfl ?_); rintro v H1 I1 hle1 ⟨rfl, rfl⟩) | (refine O_ef rfl (Ef_call (I := []) WideF.wide (h2 _) ⟨rfl, trivial⟩ rfl ?_); rintro v H2 I2 hle2 ⟨a1, c1, rfl, rfl⟩) | (refine O_ef rfl (Ef_call (I := []) WideF.wide (hk _ (hle1.trans hle2)) trivial rfl ?_); rintro v H3 I3 hle3 ⟨rfl, rfl⟩) | (refine O_ef rfl (Ef_call (I := [_]) WideF.wide (hus _ _ _) ⟨rfl, trivial⟩ rfl ?_); rintro v H4 I4 hle4 ⟨a4, c4, rfl, rfl, rfl⟩; refine O_freeze (by simp) ?_; intro H5 hle5 r4) | refine O_nil ?_ | refine A_seq ?_ | refine A_region ?_ | refine A_skip ?_ | refine A_ret ?_ | (show opsA _ _ _ _ _ _ _; first | (refine O_split rfl rfl (fun h => ?_) (fun h => ?_) <;> try (exfalso; omega)) | refine O_ev WideF.wide rfl (Ev_pure rfl) rfl rfl ?_ | (show opsA _ _ _ _ (⟨_, .call _, _, _, _, _⟩ :: _) _ _; refine O_ev WideF.wide rfl (Ev_llen rfl) rfl rfl ?_) | (show opsA _ _ _ _ (⟨_, .binOp _ _ _ _ _, _, _, _, _⟩ :: _) _ _; refine O_ev WideF.wide rfl (Ev_seql rfl rfl) rfl rfl ?_) | (show opsA _ _ _ _ (⟨_, .unOp _ _ _, _, _, _, _⟩ :: _) _ _; refine O_ev WideF.wide rfl (Ev_notb rfl) rfl rfl ?_) | refine O_skip WideF.wide rfl rfl rfl ?_) | (show wpA _ _ _ (.cond _ _ _) _ _ _ _; first | (refine A_if rfl (fun h => ?_) (fun h => ?_) <;> try (exfalso; omega)) | refine A_iffalse rfl ?_))
      all_goals first
        | exact End_e (Ret1 rfl rfl) ⟨congrArg Value.bool (decide_eq_true rfl), rfl⟩
        | (exfalso; omega)
    · have hinc := usedL_inc ps
      obtain ⟨u, hu⟩ : ∃ u, (usedL ps)[0]? = some u := ⟨_, List.getElem?_eq_getElem (List.length_pos_iff.2 hu0)⟩
      obtain ⟨w, hw⟩ : ∃ w, (usedL ps)[(usedL ps).length - 1]? = some w := ⟨_, List.getElem?_eq_getElem (by have := List.length_pos_iff.2 hu0; omega)⟩
      have hbi := bad_iff (q := q) hpo hu hw
      have hur := mem_usedL.1 (List.mem_of_getElem? hu)
      have hwr := mem_usedL.1 (List.mem_of_getElem? hw)
      have hupos := List.length_pos_iff.2 hu0
      have hul9 : (usedL ps).length ≤ 9 := usedUp_len ps 9
      have hul1 : ((usedL ps).length : Int) - 1 = (((usedL ps).length - 1 : Nat) : Int) := by omega
      by_cases hb : ∃ p ∈ ps, badS q p
      · rw [if_pos hb] at hse
        rw [hse] at h1
        dsimp only at h1
        have hbi := hbi.1 hb
        by_cases g1 : 8 < q
        · refine Fn_of _ _ Tryz.func9 rfl Tryz.ntmps9 rfl fun c => ?_
          repeat' (first | (refine O_ef rfl (Ef_callp WideF.wide (hc _) ⟨rfl, trivial⟩ rfl ?_)) | (refine O_ef rfl (Ef_call (I := []) WideF.wide (h1 _ (HLe.refl _)) ⟨rfl, rfl, trivial⟩ rfl ?_); rintro v H1 I1 hle1 ⟨rfl, rfl⟩) | (refine O_ef rfl (Ef_call (I := []) WideF.wide (h2 _) ⟨rfl, trivial⟩ rfl ?_); rintro v H2 I2 hle2 ⟨a1, c1, rfl, rfl⟩) | (refine O_ef rfl (Ef_call (I := []) WideF.wide (hk _ (hle1.trans hle2)) trivial rfl ?_); rintro v H3 I3 hle3 ⟨rfl, rfl⟩) | (refine O_ef rfl (Ef_call (I := [_]) WideF.wide (hus _ _ _) ⟨rfl, trivial⟩ rfl ?_); rintro v H4 I4 hle4 ⟨a4, c4, rfl, rfl, rfl⟩; refine O_freeze (irow_one _) ?_; intro H5 hle5 r4; obtain ⟨b, o, y, rfl, hyi, hu1⟩ := r4.atm 0 hupos; obtain ⟨b', o', y', hbo, hyi', hw1⟩ := r4.atm ((usedL ps).length - 1) (by omega); cases hbo; rw [hu] at hyi; cases hyi; rw [hw] at hyi'; cases hyi'; unfold irow at hu1 hw1) | refine O_nil ?_ | refine A_seq ?_ | refine A_region ?_ | refine A_skip ?_ | refine A_ret ?_ | (show opsA _ _ _ _ _ _ _; first | (refine O_split rfl rfl (fun h => ?_) (fun h => ?_) <;> try (exfalso; omega)) | refine O_ev WideF.wide rfl (Ev_pure rfl) rfl rfl ?_ | (show opsA _ _ _ _ (⟨_, .call _, _, _, _, _⟩ :: _) _ _; refine O_ev WideF.wide rfl (Ev_llen rfl) rfl rfl ?_) | (show opsA _ _ _ _ (⟨_, .binOp _ _ _ _ _, _, _, _, _⟩ :: _) _ _; refine O_ev WideF.wide rfl (Ev_seql rfl rfl) rfl rfl ?_) | (show opsA _ _ _ _ (⟨_, .unOp _ _ _, _, _, _, _⟩ :: _) _ _; refine O_ev WideF.wide rfl (Ev_notb rfl) rfl rfl ?_) | refine O_skip WideF.wide rfl rfl rfl ?_) | (show wpA _ _ _ (.cond _ _ _) _ _ _ _; first | (refine A_if rfl (fun h => ?_) (fun h => ?_) <;> try (exfalso; omega)) | refine A_iftrue rfl ?_ | refine A_iffalse rfl ?_))
          all_goals first
            | exact End_e (Ret1 rfl rfl) ⟨rfl, rfl⟩
            | (exfalso; omega)
        · by_cases g2 : q < -8
          · refine Fn_of _ _ Tryz.func9 rfl Tryz.ntmps9 rfl fun c => ?_
            repeat' (first | (refine O_ef rfl (Ef_callp WideF.wide (hc _) ⟨rfl, trivial⟩ rfl ?_)) | (refine O_ef rfl (Ef_call (I := []) WideF.wide (h1 _ (HLe.refl _)) ⟨rfl, rfl, trivial⟩ rfl ?_); rintro v H1 I1 hle1 ⟨rfl, rfl⟩) | (refine O_ef rfl (Ef_call (I := []) WideF.wide (h2 _) ⟨rfl, trivial⟩ rfl ?_); rintro v H2 I2 hle2 ⟨a1, c1, rfl, rfl⟩) | (refine O_ef rfl (Ef_call (I := []) WideF.wide (hk _ (hle1.trans hle2)) trivial rfl ?_); rintro v H3 I3 hle3 ⟨rfl, rfl⟩) | (refine O_ef rfl (Ef_call (I := [_]) WideF.wide (hus _ _ _) ⟨rfl, trivial⟩ rfl ?_); rintro v H4 I4 hle4 ⟨a4, c4, rfl, rfl, rfl⟩; refine O_freeze (irow_one _) ?_; intro H5 hle5 r4; obtain ⟨b, o, y, rfl, hyi, hu1⟩ := r4.atm 0 hupos; obtain ⟨b', o', y', hbo, hyi', hw1⟩ := r4.atm ((usedL ps).length - 1) (by omega); cases hbo; rw [hu] at hyi; cases hyi; rw [hw] at hyi'; cases hyi'; unfold irow at hu1 hw1) | refine O_nil ?_ | refine A_seq ?_ | refine A_region ?_ | refine A_skip ?_ | refine A_ret ?_ | (show opsA _ _ _ _ _ _ _; first | (refine O_split rfl rfl (fun h => ?_) (fun h => ?_) <;> try (exfalso; omega)) | refine O_ev WideF.wide rfl (Ev_pure rfl) rfl rfl ?_ | (show opsA _ _ _ _ (⟨_, .call _, _, _, _, _⟩ :: _) _ _; refine O_ev WideF.wide rfl (Ev_llen rfl) rfl rfl ?_) | (show opsA _ _ _ _ (⟨_, .binOp _ _ _ _ _, _, _, _, _⟩ :: _) _ _; refine O_ev WideF.wide rfl (Ev_seql rfl rfl) rfl rfl ?_) | (show opsA _ _ _ _ (⟨_, .unOp _ _ _, _, _, _, _⟩ :: _) _ _; refine O_ev WideF.wide rfl (Ev_notb rfl) rfl rfl ?_) | refine O_skip WideF.wide rfl rfl rfl ?_) | (show wpA _ _ _ (.cond _ _ _) _ _ _ _; first | (refine A_if rfl (fun h => ?_) (fun h => ?_) <;> try (exfalso; omega)) | refine A_iftrue rfl ?_ | refine A_iffalse rfl ?_))
            all_goals first
              | exact End_e (Ret1 rfl rfl) ⟨rfl, rfl⟩
              | (exfalso; omega)
          · by_cases g3 : u + q < 1
            · refine Fn_of _ _ Tryz.func9 rfl Tryz.ntmps9 rfl fun c => ?_
              repeat' (first | (refine O_ef rfl (Ef_callp WideF.wide (hc _) ⟨rfl, trivial⟩ rfl ?_)) | (refine O_ef rfl (Ef_call (I := []) WideF.wide (h1 _ (HLe.refl _)) ⟨rfl, rfl, trivial⟩ rfl ?_); rintro v H1 I1 hle1 ⟨rfl, rfl⟩) | (refine O_ef rfl (Ef_call (I := []) WideF.wide (h2 _) ⟨rfl, trivial⟩ rfl ?_); rintro v H2 I2 hle2 ⟨a1, c1, rfl, rfl⟩) | (refine O_ef rfl (Ef_call (I := []) WideF.wide (hk _ (hle1.trans hle2)) trivial rfl ?_); rintro v H3 I3 hle3 ⟨rfl, rfl⟩) | (refine O_ef rfl (Ef_call (I := [_]) WideF.wide (hus _ _ _) ⟨rfl, trivial⟩ rfl ?_); rintro v H4 I4 hle4 ⟨a4, c4, rfl, rfl, rfl⟩; refine O_freeze (irow_one _) ?_; intro H5 hle5 r4; obtain ⟨b, o, y, rfl, hyi, hu1⟩ := r4.atm 0 hupos; obtain ⟨b', o', y', hbo, hyi', hw1⟩ := r4.atm ((usedL ps).length - 1) (by omega); cases hbo; rw [hu] at hyi; cases hyi; rw [hw] at hyi'; cases hyi'; unfold irow at hu1 hw1) | (refine O_ev WideF.wide rfl (Ev_loadH1 rfl (hu1 0 _ rfl)) rfl rfl ?_) | refine O_nil ?_ | refine A_seq ?_ | refine A_region ?_ | refine A_skip ?_ | refine A_ret ?_ | (show opsA _ _ _ _ _ _ _; first | (refine O_split rfl rfl (fun h => ?_) (fun h => ?_) <;> try (exfalso; omega)) | refine O_ev WideF.wide rfl (Ev_pure rfl) rfl rfl ?_ | (show opsA _ _ _ _ (⟨_, .indexAddr _ _ _, _, _, _, _⟩ :: _) _ _; refine O_ev WideF.wide rfl (Ev_indexAddr rfl rfl (by omega) (by omega)) rfl rfl ?_) | (show opsA _ _ _ _ (⟨_, .call _, _, _, _, _⟩ :: _) _ _; refine O_ev WideF.wide rfl (Ev_llen rfl) rfl rfl ?_) | (show opsA _ _ _ _ (⟨_, .binOp _ _ _ _ _, _, _, _, _⟩ :: _) _ _; first | refine O_ev WideF.wide rfl (Ev_add rfl rfl (wi64 (by omega))) rfl rfl ?_ | refine O_ev WideF.wide rfl (Ev_seql rfl rfl) rfl rfl ?_) | (show opsA _ _ _ _ (⟨_, .unOp _ _ _, _, _, _, _⟩ :: _) _ _; refine O_ev WideF.wide rfl (Ev_notb rfl) rfl rfl ?_) | refine O_skip WideF.wide rfl rfl rfl ?_) | (show wpA _ _ _ (.cond _ _ _) _ _ _ _; first | (refine A_if rfl (fun h => ?_) (fun h => ?_) <;> try (exfalso; omega)) | refine A_iftrue rfl ?_ | refine A_iffalse rfl ?_))
              all_goals first
                | exact End_e (Ret1 rfl rfl) ⟨rfl, rfl⟩
                | (exfalso; omega)
            · have g4 : 9 < w + q := by omega
              refine Fn_of _ _ Tryz.func9 rfl Tryz.ntmps9 rfl fun c => ?_
              repeat' (first | (refine O_ef rfl (Ef_callp WideF.wide (hc _) ⟨rfl, trivial⟩ rfl ?_)) | (refine O_ef rfl (Ef_call (I := []) WideF.wide (h1 _ (HLe.refl _)) ⟨rfl, rfl, trivial⟩ rfl ?_); rintro v H1 I1 hle1 ⟨rfl, rfl⟩) | (refine O_ef rfl (Ef_call (I := []) WideF.wide (h2 _) ⟨rfl, trivial⟩ rfl ?_); rintro v H2 I2 hle2 ⟨a1, c1, rfl, rfl⟩) | (refine O_ef rfl (Ef_call (I := []) WideF.wide (hk _ (hle1.trans hle2)) trivial rfl ?_); rintro v H3 I3 hle3 ⟨rfl, rfl⟩) | (refine O_ef rfl (Ef_call (I := [_]) WideF.wide (hus _ _ _) ⟨rfl, trivial⟩ rfl ?_); rintro v H4 I4 hle4 ⟨a4, c4, rfl, rfl, rfl⟩; refine O_freeze (irow_one _) ?_; intro H5 hle5 r4; obtain ⟨b, o, y, rfl, hyi, hu1⟩ := r4.atm 0 hupos; obtain ⟨b', o', y', hbo, hyi', hw1⟩ := r4.atm ((usedL ps).length - 1) (by omega); cases hbo; rw [hu] at hyi; cases hyi; rw [hw] at hyi'; cases hyi'; unfold irow at hu1 hw1) | (refine O_ev WideF.wide rfl (Ev_loadH1 rfl (hu1 0 _ rfl)) rfl rfl ?_) | (refine O_ev WideF.wide rfl (Ev_loadH1 rfl (hw1 0 _ rfl)) rfl rfl ?_) | (refine O_ev WideF.wide rfl (Ev_sub rfl rfl (wi64 (by omega))) rfl rfl ?_; rw [hul1]) | refine O_nil ?_ | refine A_seq ?_ | refine A_region ?_ | refine A_skip ?_ | refine A_ret ?_ | (show opsA _ _ _ _ _ _ _; first | (refine O_split rfl rfl (fun h => ?_) (fun h => ?_) <;> try (exfalso; omega)) | refine O_ev WideF.wide rfl (Ev_pure rfl) rfl rfl ?_ | (show opsA _ _ _ _ (⟨_, .indexAddr _ _ _, _, _, _, _⟩ :: _) _ _; refine O_ev WideF.wide rfl (Ev_indexAddr rfl rfl (by omega) (by omega)) rfl rfl ?_) | (show opsA _ _ _ _ (⟨_, .call _, _, _, _, _⟩ :: _) _ _; refine O_ev WideF.wide rfl (Ev_llen rfl) rfl rfl ?_) | (show opsA _ _ _ _ (⟨_, .binOp _ _ _ _ _, _, _, _, _⟩ :: _) _ _; first | refine O_ev WideF.wide rfl (Ev_add rfl rfl (wi64 (by omega))) rfl rfl ?_ | refine O_ev WideF.wide rfl (Ev_seql rfl rfl) rfl rfl ?_) | (show opsA _ _ _ _ (⟨_, .unOp _ _ _, _, _, _, _⟩ :: _) _ _; refine O_ev WideF.wide rfl (Ev_notb rfl) rfl rfl ?_)) | (show wpA _ _ _ (.cond _ _ _) _ _ _ _; first | (refine A_if rfl (fun h => ?_) (fun h => ?_) <;> try (exfalso; omega)) | refine A_iffalse rfl ?_))
              all_goals first
                | exact End_e (Ret1 rfl rfl) ⟨rfl, rfl⟩
                | (exfalso; omega)
      · have hnb : ∀ p ∈ ps, ¬ badS q p := fun p hp h => hb ⟨p, hp, h⟩
        rw [if_neg hb] at hse
        rw [hse] at h1
        dsimp only at h1
        obtain ⟨hs1, hs2⟩ := hsh rfl hnb
        obtain ⟨g1, g2, g3, g4⟩ : ¬ 8 < q ∧ ¬ q < -8 ∧ ¬ u + q < 1 ∧ ¬ 9 < w + q :=
          ⟨fun h => hb (hbi.2 (.inl h)), fun h => hb (hbi.2 (.inr (.inl h))), fun h => hb (hbi.2 (.inr (.inr (.inl h)))), fun h => hb (hbi.2 (.inr (.inr (.inr h))))⟩
        have htl := (tplE_ok hs1).2.1
        have h3 := fun Hx => lParse_fn (H := Hx) (s := txtP (ps.map (shf q))) (by omega)
        have h4 := fun Hx (h : HLe H Hx) => Shift_fn (hM.mono h) (s := txtP (ps.map (shf q))) (q := 0 - q) (by omega) (by constructor <;> omega)
        unfold ParseH at h3
        unfold shiftV at h4
        rw [hs1] at h3
        rw [hs2] at h4
        dsimp only at h3 h4
        clear hs1 hs2 htl hsh hps
        generalize txtP (ps.map (shf q)) = tt at *
        refine Fn_of _ _ Tryz.func9 rfl Tryz.ntmps9 rfl fun c => ?_
        repeat' (first | (refine O_ef rfl (Ef_callp WideF.wide (hc _) ⟨rfl, trivial⟩ rfl ?_)) | (refine O_ef rfl (Ef_call (I := []) WideF.wide (h1 _ (HLe.refl _)) ⟨rfl, rfl, trivial⟩ rfl ?_); rintro v H1 I1 hle1 ⟨rfl, rfl⟩) | (refine O_ef rfl (Ef_call (I := []) WideF.wide (h2 _) ⟨rfl, trivial⟩ rfl ?_); rintro v H2 I2 hle2 ⟨a1, c1, rfl, rfl⟩) | (refine O_ef rfl (Ef_call (I := []) WideF.wide (hk _ (hle1.trans hle2)) trivial rfl ?_); rintro v H3 I3 hle3 ⟨rfl, rfl⟩) | (refine O_ef rfl (Ef_call (I := [_]) WideF.wide (hus _ _ _) ⟨rfl, trivial⟩ rfl ?_); rintro v H4 I4 hle4 ⟨a4, c4, rfl, rfl, rfl⟩; refine O_freeze (irow_one _) ?_; intro H5 hle5 r4; obtain ⟨b, o, y, rfl, hyi, hu1⟩ := r4.atm 0 hupos; obtain ⟨b', o', y', hbo, hyi', hw1⟩ := r4.atm ((usedL ps).length - 1) (by omega); cases hbo; rw [hu] at hyi; cases hyi; rw [hw] at hyi'; cases hyi'; unfold irow at hu1 hw1) | (refine O_ev WideF.wide rfl (Ev_loadH1 rfl (hu1 0 _ rfl)) rfl rfl ?_) | (refine O_ev WideF.wide rfl (Ev_loadH1 rfl (hw1 0 _ rfl)) rfl rfl ?_) | (refine O_ev WideF.wide rfl (Ev_sub rfl rfl (wi64 (by omega))) rfl rfl ?_; rw [hul1]) | (refine O_ef rfl (Ef_call (I := []) WideF.wide (h3 _) ⟨rfl, trivial⟩ rfl ?_); rintro v H6 I6 hle6 ⟨a6, n6, c6, rfl, r6, rfl⟩); have hn6 : n6 = ps.length := (by have := r6.len; rw [List.length_map, List.length_map] at this; omega) | (refine O_ef rfl (Ef_call (I := []) WideF.wide (h4 _ (((((hle1.trans hle2).trans hle3).trans hle4).trans hle5).trans hle6)) ⟨rfl, rfl, trivial⟩ rfl ?_); rintro v H7 I7 hle7 ⟨rfl, rfl⟩) | refine O_nil ?_ | refine A_seq ?_ | refine A_region ?_ | refine A_skip ?_ | refine A_ret ?_ | refine A_block ?_ | (show opsA _ _ _ _ _ _ _; first | (refine O_split rfl rfl (fun h => ?_) (fun h => ?_) <;> try (exfalso; omega)) | refine O_ev WideF.wide rfl (Ev_pure rfl) rfl rfl ?_ | (show opsA _ _ _ _ (⟨_, .indexAddr _ _ _, _, _, _, _⟩ :: _) _ _; refine O_ev WideF.wide rfl (Ev_indexAddr rfl rfl (by omega) (by omega)) rfl rfl ?_) | (show opsA _ _ _ _ (⟨_, .call _, _, _, _, _⟩ :: _) _ _; refine O_ev WideF.wide rfl (Ev_llen rfl) rfl rfl ?_) | (show opsA _ _ _ _ (⟨_, .binOp _ _ _ _ _, _, _, _, _⟩ :: _) _ _; first | refine O_ev WideF.wide rfl (Ev_add rfl rfl (wi64 (by omega))) rfl rfl ?_ | refine O_ev WideF.wide rfl (Ev_sub rfl rfl (wi64 (by omega))) rfl rfl ?_ | refine O_ev WideF.wide rfl (Ev_sneq rfl rfl) rfl rfl ?_) | (show opsA _ _ _ _ (⟨_, .unOp _ _ _, _, _, _, _⟩ :: _) _ _; refine O_ev WideF.wide rfl (Ev_notb rfl) rfl rfl ?_) | refine O_skip WideF.wide rfl rfl rfl ?_) | (show wpA _ _ _ (.cond _ _ _) _ _ _ _; first | (refine A_if rfl (fun h => ?_) (fun h => ?_) <;> try (exfalso; omega)) | refine A_iftrue rfl ?_ | refine A_iffalse rfl ?_))
        all_goals try (exfalso; omega)
        all_goals try (exfalso; exact absurd rfl (by assumption))
        have r6 := r6.mono hle7
        have hpt := fun Hx a n c (h : HRow Hx a n c 3 ((ps.map (shf q)).map prow)) (hn : n < 68719476736) => parts_fn h hn
        unfold PtsIs at hpt
        have hsm := fun Hx a n c a' n' c' (h : HRow Hx a n c 3 ((ps.map (shf q)).map prow)) (h' : HRow Hx a' n' c' 3 ((ps.map (shf q)).map prow)) (hn : n < 68719476736) => Same_fn h h' hn
        simp only [decide_true] at hsm
        refine A_loopu (fun m st => ∃ (i : Nat) (css : List (List Value)), m = ps.length - i ∧ i ≤ ps.length ∧ css = ((ps.take i).map (shf q) ++ ps.drop i).map prow ∧ st = ⟨146, [(1, .int .i64 q), (7, .slice a1 ps.length c1), (10, .slice a6 n6 c6), (14, .int .i64 i)], H7, [.row (.slice a1 ps.length c1) 3 css], [], []⟩) ?_ ?_
        · exact Shift.to ⟨_, 0, _, rfl, by omega, by simp, rfl⟩ ⟨rfl, rfl, rfl, ⟨rfl, rfl, rfl, rfl, trivial⟩, Own.subi [0] (by decide) rfl rfl⟩
        · rintro m st ⟨i, css, rfl, hi, hcss, rfl⟩
          by_cases hlt : i < ps.length
          · obtain ⟨p, hpi⟩ : ∃ p, ps[i]? = some p := ⟨_, List.getElem?_eq_getElem hlt⟩
            have hok := hpo p (List.mem_of_getElem? hpi)
            refine A_rowaddr (q := 0) rfl ?_
            intro _ _ ha _ had
            cases a1 with
            | none => have h1 := (ha rfl).1; rw [hcss] at h1; have := congrArg List.length h1; simp at this; omega
            | some ad =>
              obtain ⟨b2, rfl⟩ := had ad rfl
              have hget : css[i]? = some [sv p.lit, .int .i64 p.lev, .bool p.plain] := by
                rw [hcss, List.getElem?_map, List.getElem?_append_right (by simp; omega), List.getElem?_drop]
                simp only [List.length_map, List.length_take]
                rw [show i + (i - min i ps.length) = i by omega, hpi]
                rfl
              have hstep : css.set i (prow (shf q p)) = ((ps.take (i + 1)).map (shf q) ++ ps.drop (i + 1)).map prow := by
                rw [hcss, take_get hpi, drop_get hpi, List.map_append, List.map_cons]
                have hl : i = ((ps.take i).map (shf q)).length := by rw [List.length_map, List.length_take]; omega
                conv => lhs; arg 2; rw [hl, ← List.length_map (f := prow)]
                rw [mid_set]
                simp
              by_cases h0 : p.lev = 0
              · have hs0 : shf q p = p := by unfold shf; rw [if_pos h0]
                rw [hs0] at hstep
                have hsame : css.set i (prow p) = css := by
                  apply List.ext_getElem?
                  intro j
                  rw [List.getElem?_set]
                  by_cases hj : i = j
                  · subst hj
                    rw [if_pos rfl, hget, if_pos (List.getElem?_eq_some_iff.1 hget).1]; rfl
                  · rw [if_neg hj]
                rw [hsame] at hstep
                repeat' (first | (refine O_ev WideF.wide rfl (Ev_loadR1 (q := 0) (d := 1) rfl rfl hget (by omega) rfl) rfl rfl ?_) | refine O_nil ?_ | refine A_seq ?_ | refine A_region ?_ | refine A_skip ?_ | refine A_block ?_ | (show opsA _ _ _ _ _ _ _; first | refine O_ev WideF.wide rfl (Ev_pure rfl) rfl rfl ?_ | (show opsA _ _ _ _ (⟨_, .indexAddr _ _ _, _, _, _, _⟩ :: _) _ _; refine O_ev WideF.wide rfl (Ev_indexAddr rfl rfl (by omega) (by omega)) rfl rfl ?_) | (show opsA _ _ _ _ (⟨_, .fieldAddr _ _ _, _, _, _, _⟩ :: _) _ _; refine O_ev WideF.wide rfl (Ev_fieldAddr rfl rfl rfl) rfl rfl ?_) | (show opsA _ _ _ _ (⟨_, .call _, _, _, _, _⟩ :: _) _ _; refine O_ev WideF.wide rfl (Ev_llen rfl) rfl rfl ?_) | (show opsA _ _ _ _ (⟨_, .binOp _ _ _ _ _, _, _, _, _⟩ :: _) _ _; refine O_ev WideF.wide rfl (Ev_add rfl rfl (wi64 (by omega))) rfl rfl ?_)) | (show wpA _ _ _ (.cond _ _ _) _ _ _ _; (refine A_if rfl (fun h => ?_) (fun h => ?_) <;> try (exfalso; omega))))
                all_goals try (exfalso; omega)
                refine Shift.to ⟨_, ?_, i + 1, css, rfl, by omega, hstep, rfl⟩ ⟨rfl, rfl, rfl, ⟨rfl, rfl, rfl, rfl, trivial⟩, Own.subi [0] (by decide) rfl rfl⟩
                omega
              · have hlv : 1 ≤ p.lev ∧ p.lev ≤ 9 := hok.elim (fun h => absurd h h0) id
                have hs1 : shf q p = ⟨p.lit, p.lev + q, p.plain⟩ := by unfold shf; rw [if_neg h0]
                rw [hs1] at hstep
                repeat' (first | (refine O_ev WideF.wide rfl (Ev_loadR1 (q := 0) (d := 1) rfl rfl hget (by omega) rfl) rfl rfl ?_) | (refine O_ef rfl (Ef_storeR1 WideF.wide (i := i) (dd := 1) (cs := [sv p.lit, .int .i64 p.lev, .bool p.plain]) (cs' := [sv p.lit, .int .i64 (p.lev + q), .bool p.plain]) rfl rfl hget (by omega) rfl rfl rfl rfl ?_)) | refine O_nil ?_ | refine A_seq ?_ | refine A_region ?_ | refine A_skip ?_ | refine A_block ?_ | (show opsA _ _ _ _ _ _ _; first | refine O_ev WideF.wide rfl (Ev_pure rfl) rfl rfl ?_ | (show opsA _ _ _ _ (⟨_, .indexAddr _ _ _, _, _, _, _⟩ :: _) _ _; refine O_ev WideF.wide rfl (Ev_indexAddr rfl rfl (by omega) (by omega)) rfl rfl ?_) | (show opsA _ _ _ _ (⟨_, .fieldAddr _ _ _, _, _, _, _⟩ :: _) _ _; refine O_ev WideF.wide rfl (Ev_fieldAddr rfl rfl rfl) rfl rfl ?_) | (show opsA _ _ _ _ (⟨_, .call _, _, _, _, _⟩ :: _) _ _; refine O_ev WideF.wide rfl (Ev_llen rfl) rfl rfl ?_) | (show opsA _ _ _ _ (⟨_, .binOp _ _ _ _ _, _, _, _, _⟩ :: _) _ _; refine O_ev WideF.wide rfl (Ev_add rfl rfl (wi64 (by omega))) rfl rfl ?_)) | (show wpA _ _ _ (.cond _ _ _) _ _ _ _; (refine A_if rfl (fun h => ?_) (fun h => ?_) <;> try (exfalso; omega))))
                all_goals try (exfalso; omega)
                refine Shift.to ⟨_, ?_, i + 1, _, rfl, by omega, hstep, rfl⟩ ⟨rfl, rfl, rfl, ⟨rfl, rfl, rfl, rfl, trivial⟩, Own.subi [0] (by decide) rfl rfl⟩
                omega
          · rw [List.take_of_length_le (by omega), List.drop_of_length_le (by omega), List.append_nil] at hcss
            subst hcss
            repeat' (first | (refine O_ef rfl (Ef_call (I := []) WideF.wide (hpt _ _ _ _ r6 (by omega)) ⟨rfl, trivial⟩ rfl ?_); rintro v H8 I8 hle8 ⟨a8, n8, c8, rfl, r8, rfl⟩); have hn8 := r8.n_eq; rw [List.length_map] at hn8 | (refine O_freeze (prow_one _) ?_; intro H9 hle9 r9; refine O_ef rfl (Ef_callp WideF.wide (hsm _ _ _ _ _ _ _ (r8.mono hle9) r9 (by omega)) ⟨rfl, rfl, trivial⟩ rfl ?_)) | refine O_nil ?_ | refine A_seq ?_ | refine A_region ?_ | refine A_ret ?_ | (show opsA _ _ _ _ _ _ _; first | refine O_ev WideF.wide rfl (Ev_pure rfl) rfl rfl ?_ | (show opsA _ _ _ _ (⟨_, .call _, _, _, _, _⟩ :: _) _ _; refine O_ev WideF.wide rfl (Ev_llen rfl) rfl rfl ?_)) | (show wpA _ _ _ (.exit _) _ _ _ _; refine A_exit rfl ?_) | (show wpA _ _ _ (.cond _ _ _) _ _ _ _; (refine A_if rfl (fun h => ?_) (fun h => ?_) <;> try (exfalso; omega))))
            all_goals first
              | (exfalso; omega)
              | exact End_e (Ret1 rfl rfl) ⟨rfl, rfl⟩
  · rw [if_pos he] at hse
    rw [hse] at h1
    dsimp only at h1
    refine Fn_of _ _ Tryz.func9 rfl Tryz.ntmps9 rfl fun c => ?_
    repeat' (first | (refine O_ef rfl (Ef_callp WideF.wide (hc _) ⟨rfl, trivial⟩ rfl ?_)) | (refine O_ef rfl (Ef_call (I := []) WideF.wide (h1 _ (HLe.refl _)) ⟨rfl, rfl, trivial⟩ rfl ?_); rintro v H1 I1 hle1 ⟨rfl, rfl⟩) | (refine O_ef rfl (Ef_call (I := []) WideF.wide (h2 _) ⟨rfl, trivial⟩ rfl ?_); rintro v H2 I2 hle2 ⟨a1, c1, rfl, rfl⟩) | (refine O_ef rfl (Ef_call (I := []) WideF.wide (hk _ (hle1.trans hle2)) trivial rfl ?_); rintro v H3 I3 hle3 ⟨rfl, rfl⟩) | (refine O_ef rfl (Ef_call (I := [_]) WideF.wide (hus _ _ _) ⟨rfl, trivial⟩ rfl ?_); rintro v H4 I4 hle4 ⟨a4, c4, rfl, rfl, rfl⟩; refine O_freeze (irow_one _) ?_; intro H5 hle5 r4) | refine O_nil ?_ | refine A_seq ?_ | refine A_region ?_ | refine A_skip ?_ | refine A_ret ?_ | (show opsA _ _ _ _ _ _ _; first | (refine O_split rfl rfl (fun h => ?_) (fun h => ?_) <;> try (exfalso; omega)) | refine O_ev WideF.wide rfl (Ev_pure rfl) rfl rfl ?_ | (show opsA _ _ _ _ (⟨_, .binOp _ _ _ _ _, _, _, _, _⟩ :: _) _ _; refine O_ev WideF.wide rfl (Ev_seql rfl rfl) rfl rfl ?_) | (show opsA _ _ _ _ (⟨_, .unOp _ _ _, _, _, _, _⟩ :: _) _ _; refine O_ev WideF.wide rfl (Ev_notb rfl) rfl rfl ?_) | refine O_skip WideF.wide rfl rfl rfl ?_) | (show wpA _ _ _ (.cond _ _ _) _ _ _ _; first | (refine A_if rfl (fun h => ?_) (fun h => ?_) <;> try (exfalso; omega)) | refine A_iffalse rfl ?_))
    all_goals first
      | exact End_e (Ret1 rfl rfl) ⟨rfl, rfl⟩
      | (exfalso; omega)
end Go.Proofs.YtaneeaojlkenmaaGreatDoor
