/-
  run: check, divide.
-/
import Derived.Test.YthbnhcgphkghaaaR12
import Derived.Test.YthbnhcgphkghaaaA10
namespace Go.Proofs.Ythbnhcgphkghaaa
open Go
set_option linter.unusedVariables false
set_option linter.unusedSimpArgs false
attribute [local irreducible] wpA opsA drJ drQ drE Ef Ev Shift Fn

/-- the error of a range -/
def rngE (l : List Item) (from_ to : Int) : Int := if okL l then (if from_ < 0 ∨ to < from_ ∨ usum l < to then 2 else 0) else 12
set_option maxRecDepth 100000 in
theorem check_fn {H : Hp} {a : Option Addr} {n cp : Nat} {l : List Item} {f t : Int} (hx0 : FlowH H a n cp l) (hl : massL l < 1099511627776) : FnP Try.prog 63 [.slice a n cp, .int .i64 f, .int .i64 t] H (.int .i64 (rngE l f t)) := by
  have hlen := Len_fn hx0 (by omega)
  have hE : lenE l = 0 ↔ okL l := by unfold lenE; split <;> simp [*]
  have hV : okL l → lenV l = usum l := fun h => by unfold lenV; rw [if_pos h]
  refine Fn_of _ _ Try.func63 rfl Try.ntmps63 rfl fun c => ?_
  repeat' (first | (refine O_ef rfl (Ef_callp WideF.wide hlen ⟨rfl, trivial⟩ rfl ?_)) | refine O_nil ?_ | refine A_seq ?_ | refine A_region ?_ | refine A_skip ?_ | refine A_ret ?_ | refine A_block ?_ | (show opsA _ _ _ _ _ _ _; first | (refine O_split rfl rfl (fun h => ?_) (fun h => ?_) <;> try (exfalso; omega)) | refine O_ev WideF.wide rfl (Ev_pure rfl) rfl rfl ?_ | refine O_skip WideF.wide rfl rfl rfl ?_) | (show wpA _ _ _ (.cond _ _ _) _ _ _ _; first | (refine A_if rfl (fun h => ?_) (fun h => ?_) <;> try (exfalso; omega)) | refine A_iftrue rfl ?_))
  · have hno : ¬ okL l := fun hh => h (hE.2 hh)
    (refine End_p (Ret1 rfl rfl) ?_)
    unfold rngE lenE
    rw [if_neg hno, if_neg hno]
  all_goals
    have hok := hE.1 (by omega)
    have hv := hV hok
    (refine End_p (Ret1 rfl rfl) ?_)
    unfold rngE
    rw [if_pos hok]
    first | rw [if_pos (by omega)] | rw [if_neg (by omega)]

/-- what an item that begins at f gives to the left and to the right of a unit -/
def cutAt (at_ f : Int) (x : Item) : Nat := (offset x.text (at_ - f)).toNat
def lItem (at_ f : Int) (x : Item) : List Item := if f + x.units ≤ at_ then [x] else if at_ ≤ f then [] else [x.setText (x.text.take (cutAt at_ f x))]
def rItem (at_ f : Int) (x : Item) : List Item := if f + x.units ≤ at_ then [] else if at_ ≤ f then [x] else [x.setText (x.text.drop (cutAt at_ f x))]
def lFlow (at_ : Int) : Int → List Item → List Item
  | _, [] => []
  | f, x :: l => lItem at_ f x ++ lFlow at_ (f + x.units) l
def rFlow (at_ : Int) : Int → List Item → List Item
  | _, [] => []
  | f, x :: l => rItem at_ f x ++ rFlow at_ (f + x.units) l
theorem lFlow_append (at_ : Int) : ∀ (f : Int) (a b : List Item), lFlow at_ f (a ++ b) = lFlow at_ f a ++ lFlow at_ (f + usum a) b
  | f, [], b => by simp [lFlow, usum]
  | f, x :: a, b => by simp [lFlow, usum, lFlow_append at_ (f + x.units) a b, Int.add_assoc]
theorem rFlow_append (at_ : Int) : ∀ (f : Int) (a b : List Item), rFlow at_ f (a ++ b) = rFlow at_ f a ++ rFlow at_ (f + usum a) b
  | f, [], b => by simp [rFlow, usum]
  | f, x :: a, b => by simp [rFlow, usum, rFlow_append at_ (f + x.units) a b, Int.add_assoc]
theorem lFlow_snoc {l : List Item} {i : Nat} {x : Item} {at_ : Int} (h : l[i]? = some x) : lFlow at_ 0 (l.take (i + 1)) = lFlow at_ 0 (l.take i) ++ lItem at_ (usum (l.take i)) x := by
  rw [take_get h, lFlow_append]; simp [lFlow]
theorem rFlow_snoc {l : List Item} {i : Nat} {x : Item} {at_ : Int} (h : l[i]? = some x) : rFlow at_ 0 (l.take (i + 1)) = rFlow at_ 0 (l.take i) ++ rItem at_ (usum (l.take i)) x := by
  rw [take_get h, rFlow_append]; simp [rFlow]
theorem lFlow_len (at_ : Int) : ∀ (f : Int) (l : List Item), (lFlow at_ f l).length ≤ l.length
  | f, [] => by simp [lFlow]
  | f, x :: l => by
    have := lFlow_len at_ (f + x.units) l
    have : (lItem at_ f x).length ≤ 1 := by unfold lItem; (repeat' split) <;> simp
    simp [lFlow]; omega
theorem rFlow_len (at_ : Int) : ∀ (f : Int) (l : List Item), (rFlow at_ f l).length ≤ l.length
  | f, [] => by simp [rFlow]
  | f, x :: l => by
    have := rFlow_len at_ (f + x.units) l
    have : (rItem at_ f x).length ≤ 1 := by unfold rItem; (repeat' split) <;> simp
    simp [rFlow]; omega
theorem heads_lt : ∀ (l : List UInt8) (k m : Nat), m ∈ heads l k → m < k + l.length
  | [], k, m, h => by simp [heads] at h
  | c :: r, k, m, h => by
    have ih := heads_lt r (k + 1) m
    simp only [heads] at h
    split at h
    · rcases List.mem_cons.1 h with rfl | h
      · simp
      · have := ih h; simp; omega
    · have := ih h; simp; omega
theorem offset_b (l : List UInt8) (u : Int) : 0 ≤ offset l u ∧ offset l u ≤ l.length := by
  unfold offset
  split
  · unfold iat
    refine ⟨by omega, ?_⟩
    rw [List.getD_eq_getElem?_getD]
    cases h : (heads l 0 ++ [l.length])[u.toNat]? with
    | none => simp
    | some m =>
      have hm := List.mem_of_getElem? h
      rcases List.mem_append.1 hm with h1 | h1
      · have := heads_lt l 0 m h1; simp; omega
      · simp at h1; subst h1; simp
  · omega

abbrev dvEnv (b3 b4 b5 : Nat) : Env := [(3, .pointer (some ⟨b3, 0, none⟩)), (4, .pointer (some ⟨b4, 0, none⟩)), (5, .pointer (some ⟨b5, 0, none⟩))]
abbrev dvOwn (at_ : Int) (b3 b4 b5 : Nat) (la : Option Addr) (ln lc : Nat) (css : List (List Value)) (ra : Option Addr) (rn rc : Nat) (rss : List (List Value)) : Own :=
  [.box b3 [.int .i64 at_], .box b4 [.slice la ln lc], .box b5 [.slice ra rn rc], .row (.slice la ln lc) 11 css, .row (.slice ra rn rc) 11 rss]
def dvJ (l : List Item) (at_ : Int) (b3 b4 b5 : Nat) (i : Nat) (H1 : Hp) (I1 : Own) : Prop :=
  ∃ la ln lc css ra rn rc rss, I1 = [.box b3 [.int .i64 at_], .box b4 [.slice la ln lc], .box b5 [.slice ra rn rc], .row (.slice la ln lc) 11 css, .row (.slice ra rn rc) 11 rss] ∧ css.length = ln ∧ rss.length = rn ∧ All2 (ItemH H1) css (lFlow at_ 0 (l.take i)) ∧ All2 (ItemH H1) rss (rFlow at_ 0 (l.take i))
set_option maxRecDepth 100000 in
theorem divide_fn {H : Hp} {a : Option Addr} {n cp : Nat} {l : List Item} {at_ : Int} (hx0 : FlowH H a n cp l) (hl : massL l < 68719476736) (hat : -1152921504606846976 ≤ at_ ∧ at_ < 1152921504606846976) : Fn Try.prog 64 [.slice a n cp, .int .i64 at_] H [] fun v H' I' =>
    (∃ la ln lc ra rn rc, v = .tuple [.slice la ln lc, .slice ra rn rc].toArray ∧ FlowH H' la ln lc (lFlow at_ 0 l) ∧ FlowH H' ra rn rc (rFlow at_ 0 l)) ∧ I' = [] := by
  have hn := hx0.len
  have hml := massL_len l
  refine Fn_ofM _ _ Try.func64 rfl Try.ntmps64 rfl fun c => ?_
  repeat' (first | (refine O_ef rfl (Ef_call (I := []) WideF.wide items_fn ⟨rfl, trivial⟩ rfl ?_); rintro v H1 I1 hle1 ⟨⟨bi, rfl, hbi⟩, rfl⟩) | refine O_nil ?_ | refine A_seq ?_ | refine A_region ?_ | refine A_block ?_ | (show opsA _ _ _ _ _ _ _; first | refine O_ev WideF.wide rfl (Ev_pure rfl) rfl rfl ?_ | (show opsA _ _ _ _ (⟨_, .alloc _, _, _, _, _⟩ :: _) _ _; (refine O_ef rfl (Ef_alloc WideF.wide rfl ?_); intro b)) | (show opsA _ _ _ _ (⟨_, .box _ _, _, _, _, _⟩ :: _) _ _; (refine O_ef rfl (Ef_box1 WideF.wide rfl rfl rfl ?_); intro b))))
  rename_i b3 b4
  obtain ⟨b5, hb5⟩ : ∃ b5, b5 = b := ⟨_, rfl⟩
  subst hb5
  refine A_nilrow 11 ?_
  refine A_nilrow 11 ?_
  refine A_sub (s' := ⟨74, (14, itemsV bi) :: dvEnv b3 b4 b5, H1, dvOwn at_ b3 b4 b5 none 0 0 [] none 0 0 [], [], []⟩) ⟨rfl, rfl, rfl, ⟨rfl, rfl, rfl, rfl, trivial⟩, Own.subi [4, 3, 2, 0, 1] (by decide) rfl rfl⟩ ?_
  refine A_rangeFunc WideF.wide rfl (cap := [.pointer (some ⟨bi, 0, none⟩)]) (ps := [15, 16]) rfl ?_
  intro dd lo r hr hps has hbo hsn he
  refine ⟨_, items1_fn (hx0.mono hle1) hbi (by omega) (by rw [hps]; rfl) (dvJ l at_ b3 b4 b5) (fun _ _ _ => False) ⟨none, 0, 0, [], none, 0, 0, [], rfl, rfl, rfl, by simp [lFlow]; exact .nil, by simp [rFlow]; exact .nil⟩ ?_, ?_⟩
  · rintro i H2 I2 cs x hle2 ⟨la, ln, lc, css, ra, rn, rc, rss, rfl, rfl, rfl, hcss, hrss⟩ hi hxi hxc
    refine Round_of [] hr he hps has hbo hsn rfl ?_
    clear has hbo
    intro F hF c'
    have hm := massL_get hxi
    have hm2 := massL_mem hxi
    have hxb := x.units_b
    have hub2 := usum_b (l.take i)
    have hu := units_fn hxc (by omega)
    have hll := lFlow_len at_ 0 (l.take i)
    have hrr := rFlow_len at_ 0 (l.take i)
    have hcl2 := hcss.length
    have hrl2 := hrss.length
    have htl : (l.take i).length ≤ n := by rw [List.length_take]; omega
    have hls := lFlow_snoc (at_ := at_) hxi
    have hrs := rFlow_snoc (at_ := at_) hxi
    have hob := offset_b x.text (at_ - usum (l.take i))
    have hoff := Offset_fn H2 x.text (at_ - usum (l.take i)) (by omega)
    generalize ht : usum (l.take i) = t at *
    obtain ⟨pa, pn, pc, da, dn, dc, la', ln', lc', fa, fn, fc, ra', rn', rc', rfl, _⟩ := hxc.cells
    repeat' (first | refine O_nil ?_ | refine A_seq ?_ | refine A_region ?_ | (show opsA _ _ _ _ _ _ _; first | refine O_ev hF rfl (Ev_pure rfl) rfl rfl ?_ | (show opsA _ _ _ _ (⟨_, .alloc _, _, _, _, _⟩ :: _) _ _; (refine O_ef rfl (Ef_alloc hF rfl ?_); intro b)) | (show opsA _ _ _ _ (⟨_, .store _ _ _, _, _, _, _⟩ :: _) _ _; refine O_ef rfl (Ef_storew hF rfl rfl rfl rfl rfl ?_))))
    refine ⟨rfl, ?_⟩
    repeat' (first | (refine O_ef rfl (Ef_callp hF hu ⟨rfl, trivial⟩ rfl ?_)) | (refine O_ef rfl (Ef_call (I := []) hF hoff ⟨rfl, rfl, trivial⟩ rfl ?_); rintro v H3 I' hle3 ⟨rfl, rfl⟩) | refine O_nil ?_ | refine A_seq ?_ | refine A_region ?_ | refine A_block ?_ | (show opsA _ _ _ _ _ _ _; first | refine O_ev hF rfl (Ev_pure rfl) rfl rfl ?_ | (show opsA _ _ _ _ (⟨_, .load _ _, _, _, _, _⟩ :: _) _ _; first | refine O_ev hF rfl (Ev_loadB1 (i := 0) rfl rfl rfl) rfl rfl ?_ | refine O_ev hF rfl (Ev_loadB1 (i := 1) rfl rfl rfl) rfl rfl ?_ | refine O_ev hF rfl (Ev_loadB (i := 0) rfl rfl rfl) rfl rfl ?_) | (show opsA _ _ _ _ (⟨_, .fieldAddr _ _ _, _, _, _, _⟩ :: _) _ _; refine O_ev hF rfl (Ev_fieldAddr rfl rfl rfl) rfl rfl ?_) | (show opsA _ _ _ _ (⟨_, .binOp _ _ _ _ _, _, _, _, _⟩ :: _) _ _; first | refine O_ev hF rfl (Ev_add rfl rfl (wi64 (by omega))) rfl rfl ?_ | refine O_ev hF rfl (Ev_sub rfl rfl (wi64 (by omega))) rfl rfl ?_) | (show opsA _ _ _ _ (⟨_, .alloc _, _, _, _, _⟩ :: _) _ _; (refine O_ef rfl (Ef_alloc hF rfl ?_); intro b)) | (show opsA _ _ _ _ (⟨_, .store _ _ _, _, _, _, _⟩ :: _) _ _; refine O_ef rfl (Ef_storew hF rfl rfl rfl rfl rfl ?_))) | (show wpA _ _ _ (.cond _ _ _) _ _ _ _; (refine A_if rfl (fun h => ?_) (fun h => ?_) <;> try (exfalso; omega))))
    · (refine A_drawi hF (.q 0 (.q 1 (.q 2 (.e 3 (.r (.e 4 (.q 5 (.f 6 (.e 7 (.done [])) 7 (.e 6 (.done [])))))))))) [4, 5, 6, 7] [4, 1, 3, 5] [2, 0] (by decide +kernel) (by decide) rfl ?_; simp only [Own.picks, Own.rget, List.cons_append, List.nil_append, List.append_nil])
      repeat' (first | (refine D_idxRow (q := 0) rfl rfl rfl (by omega) (by simp; omega) rfl rfl ?_; intro b6 hb6; subst hb6) | (refine E_ef rfl (Ef_storeR hF (dd := 0) rfl rfl (snoc_at _ _) (by simp) rfl hxc.one (Nat.le_of_ble_eq_true rfl) rfl ?_); refine ⟨Grow.same rfl rfl, ?_⟩) | (refine E_ef rfl (Ef_f1 (Ef_storeR hF (dd := 0) rfl rfl (snoc_at _ _) (by simp) rfl hxc.one (Nat.le_of_ble_eq_true rfl) rfl ?_)); refine ⟨Grow.same rfl rfl, ?_⟩) | (refine E_ef rfl (Ef_f1 (Ef_appendR hF rfl rfl rfl rfl rfl (by simp; omega) (by simp; omega) rfl ?_)); intro a cp; refine ⟨Grow.same rfl rfl, ?_⟩) | refine O_nil ?_ | (show drJ _ _ _ _ _ _ _ (.q _ _) _; refine D_q rfl ?_) | (show drJ _ _ _ _ _ _ _ (.e _ _) _; refine D_e rfl ?_) | (show drJ _ _ _ _ _ _ _ (.f _ _ _ _) _; refine D_f rfl rfl ?_ ?_) | (show drJ _ _ _ _ _ _ _ (.r _) _; refine D_r ?_; simp only [List.cons_append, List.nil_append]) | (show drJ _ _ _ _ _ _ _ (.done _) _; refine D_done ?_; simp only [List.cons_append, List.nil_append]) | (show drQ _ _ _ _ _ _; first | (show drQ _ _ _ ⟨_, .load _ _, _, _, _, _⟩ _ _; first | refine D_ev rfl (Ev_loadB1 (i := 0) rfl rfl rfl) rfl rfl ?_ | refine D_ev rfl (Ev_loadB (i := 1) rfl rfl rfl) rfl rfl ?_) | (show drQ _ _ _ ⟨_, .call _, _, _, _, _⟩ _ _; refine D_ev rfl (Ev_llen rfl) rfl rfl ?_)) | (show drE _ _ _ _ _ _ _; first | (show drE _ _ _ _ ⟨_, .buildSlice _ _ _, _, _, _, _⟩ _ _; (refine E_ef rfl (Ef_build1a hF rfl rfl rfl rfl rfl ?_); intro b; refine ⟨Grow.same rfl rfl, ?_⟩)) | (show drE _ _ _ _ ⟨_, .store _ _ _, _, _, _, _⟩ _ _; (refine E_ef rfl (Ef_f4 (Ef_store1 hF rfl rfl rfl rfl rfl ?_)); refine ⟨Grow.same rfl rfl, ?_⟩))))
      all_goals
        have hL : All2 (ItemH H2) (css ++ [[.int .i64 x.kind, .int .i64 x.code, .int .i64 x.id, sv x.text, .slice pa pn pc, .int .i64 x.head.ins, .int .i64 x.head.move, .slice da dn dc, .slice la' ln' lc', .slice fa fn fc, .slice ra' rn' rc']]) (lFlow at_ 0 (l.take (i + 1))) := by
          rw [hls]; unfold lItem; rw [if_pos h]; exact hcss.append (All2.one hxc)
        have hR : All2 (ItemH H2) rss (rFlow at_ 0 (l.take (i + 1))) := by
          rw [hrs]; unfold rItem; rw [if_pos h, List.append_nil]; exact hrss
      · refine RendN_to (s' := ⟨74, [], H2, [.box b3 [.int .i64 at_], .box b4 [_], .box b5 [_], .row _ 11 _, .row _ 11 rss], [.obj lo (.loop (rbusy r))], []⟩) ⟨rfl, rfl, rfl, trivial, Own.subi [2, 0, 3, 1, 4, 6] (by decide) rfl rfl⟩ rfl ?_
        exact ⟨_, _, rfl, .inl ⟨rfl, rfl, _, _, _, _, _, _, _, _, rfl, by simp, rfl, by rw [snoc_set]; exact hL, hR⟩⟩
      · refine RendN_to (s' := ⟨74, [], H2, [.box b3 [.int .i64 at_], .box b4 [_], .box b5 [_], .row _ 11 _, .row _ 11 rss], [.obj lo (.loop (rbusy r))], []⟩) ⟨rfl, rfl, rfl, trivial, Own.subi [2, 1, 3, 0, 4, 6] (by decide) rfl rfl⟩ rfl ?_
        exact ⟨_, _, rfl, .inl ⟨rfl, rfl, _, _, _, _, _, _, _, _, rfl, by simp, rfl, by rw [snoc_set]; exact hL, hR⟩⟩
    · (refine A_drawi hF (.q 0 (.q 1 (.q 2 (.e 3 (.r (.e 4 (.q 5 (.f 6 (.e 7 (.done [])) 7 (.e 6 (.done [])))))))))) [4, 5, 6, 7] [5, 1, 2, 4] [3, 0] (by decide +kernel) (by decide) rfl ?_; simp only [Own.picks, Own.rget, List.cons_append, List.nil_append, List.append_nil])
      repeat' (first | (refine D_idxRow (q := 0) rfl rfl rfl (by omega) (by simp; omega) rfl rfl ?_; intro b6 hb6; subst hb6) | (refine E_ef rfl (Ef_storeR hF (dd := 0) rfl rfl (snoc_at _ _) (by simp) rfl hxc.one (Nat.le_of_ble_eq_true rfl) rfl ?_); refine ⟨Grow.same rfl rfl, ?_⟩) | (refine E_ef rfl (Ef_f1 (Ef_storeR hF (dd := 0) rfl rfl (snoc_at _ _) (by simp) rfl hxc.one (Nat.le_of_ble_eq_true rfl) rfl ?_)); refine ⟨Grow.same rfl rfl, ?_⟩) | (refine E_ef rfl (Ef_f1 (Ef_appendR hF rfl rfl rfl rfl rfl (by simp; omega) (by simp; omega) rfl ?_)); intro a cp; refine ⟨Grow.same rfl rfl, ?_⟩) | refine O_nil ?_ | (show drJ _ _ _ _ _ _ _ (.q _ _) _; refine D_q rfl ?_) | (show drJ _ _ _ _ _ _ _ (.e _ _) _; refine D_e rfl ?_) | (show drJ _ _ _ _ _ _ _ (.f _ _ _ _) _; refine D_f rfl rfl ?_ ?_) | (show drJ _ _ _ _ _ _ _ (.r _) _; refine D_r ?_; simp only [List.cons_append, List.nil_append]) | (show drJ _ _ _ _ _ _ _ (.done _) _; refine D_done ?_; simp only [List.cons_append, List.nil_append]) | (show drQ _ _ _ _ _ _; first | (show drQ _ _ _ ⟨_, .load _ _, _, _, _, _⟩ _ _; first | refine D_ev rfl (Ev_loadB1 (i := 0) rfl rfl rfl) rfl rfl ?_ | refine D_ev rfl (Ev_loadB (i := 1) rfl rfl rfl) rfl rfl ?_) | (show drQ _ _ _ ⟨_, .call _, _, _, _, _⟩ _ _; refine D_ev rfl (Ev_llen rfl) rfl rfl ?_)) | (show drE _ _ _ _ _ _ _; first | (show drE _ _ _ _ ⟨_, .buildSlice _ _ _, _, _, _, _⟩ _ _; (refine E_ef rfl (Ef_build1a hF rfl rfl rfl rfl rfl ?_); intro b; refine ⟨Grow.same rfl rfl, ?_⟩)) | (show drE _ _ _ _ ⟨_, .store _ _ _, _, _, _, _⟩ _ _; (refine E_ef rfl (Ef_f4 (Ef_store1 hF rfl rfl rfl rfl rfl ?_)); refine ⟨Grow.same rfl rfl, ?_⟩))))
      all_goals
        have hL : All2 (ItemH H2) css (lFlow at_ 0 (l.take (i + 1))) := by
          rw [hls]; unfold lItem; rw [if_neg (by assumption), if_pos h, List.append_nil]; exact hcss
        have hR : All2 (ItemH H2) (rss ++ [[.int .i64 x.kind, .int .i64 x.code, .int .i64 x.id, sv x.text, .slice pa pn pc, .int .i64 x.head.ins, .int .i64 x.head.move, .slice da dn dc, .slice la' ln' lc', .slice fa fn fc, .slice ra' rn' rc']]) (rFlow at_ 0 (l.take (i + 1))) := by
          rw [hrs]; unfold rItem; rw [if_neg (by assumption), if_pos h]; exact hrss.append (All2.one hxc)
      · refine RendN_to (s' := ⟨74, [], H2, [.box b3 [.int .i64 at_], .box b4 [_], .box b5 [_], .row _ 11 css, .row _ 11 _], [.obj lo (.loop (rbusy r))], []⟩) ⟨rfl, rfl, rfl, trivial, Own.subi [2, 3, 0, 4, 1, 6] (by decide) rfl rfl⟩ rfl ?_
        exact ⟨_, _, rfl, .inl ⟨rfl, rfl, _, _, _, _, _, _, _, _, rfl, rfl, by simp, hL, by rw [snoc_set]; exact hR⟩⟩
      · refine RendN_to (s' := ⟨74, [], H2, [.box b3 [.int .i64 at_], .box b4 [_], .box b5 [_], .row _ 11 css, .row _ 11 _], [.obj lo (.loop (rbusy r))], []⟩) ⟨rfl, rfl, rfl, trivial, Own.subi [2, 3, 1, 4, 0, 6] (by decide) rfl rfl⟩ rfl ?_
        exact ⟨_, _, rfl, .inl ⟨rfl, rfl, _, _, _, _, _, _, _, _, rfl, rfl, by simp, hL, by rw [snoc_set]; exact hR⟩⟩
    · (refine A_drawi hF (.q 0 (.q 1 (.q 2 (.q 3 (.q 4 (.q 5 (.p 6 (.p 7 (.r (.q 8 (.e 9 (.q 10 (.e 11 (.done [])))))))))))))) [8, 9, 10, 11] [0] [1, 2, 3, 4, 5, 6] (by decide +kernel) (by decide) rfl ?_; simp only [Own.picks, Own.rget, List.cons_append, List.nil_append, List.append_nil])
      repeat' (first | refine O_nil ?_ | (show drJ _ _ _ _ _ _ _ (.q _ _) _; refine D_q rfl ?_) | (show drJ _ _ _ _ _ _ _ (.e _ _) _; refine D_e rfl ?_) | (show drJ _ _ _ _ _ _ _ (.r _) _; refine D_r ?_; simp only [List.cons_append, List.nil_append]) | (show drJ _ _ _ _ _ _ _ (.done _) _; refine D_done ?_; simp only [List.cons_append, List.nil_append]) | (show drQ _ _ _ _ _ _; first | refine D_ev rfl (Ev_pure rfl) rfl rfl ?_ | (show drQ _ _ _ ⟨_, .load _ _, _, _, _, _⟩ _ _; refine D_ev rfl (Ev_loadB1 (i := 0) rfl rfl rfl) rfl rfl ?_) | (show drQ _ _ _ ⟨_, .fieldAddr _ _ _, _, _, _, _⟩ _ _; refine D_ev rfl (Ev_fieldAddr rfl rfl rfl) rfl rfl ?_) | (show drQ _ _ _ ⟨_, .slice _ _ _ _ _, _, _, _, _⟩ _ _; refine D_ev rfl (Ev_ssliceh rfl rfl (by omega) (by omega)) rfl rfl ?_)) | (show drJ _ _ _ _ _ _ _ (.p _ _) _; refine D_p rfl ?_) | (show drP _ _ _ _ _ _; first | refine D_pv rfl (Ev_pure rfl) rfl rfl ?_ | (show drP _ _ _ ⟨_, .slice _ _ _ _ _, _, _, _, _⟩ _ _; refine D_pv rfl (Ev_sslicel rfl rfl (by omega) (by omega)) rfl rfl ?_)) | (show drE _ _ _ _ _ _ _; (show drE _ _ _ _ ⟨_, .store _ _ _, _, _, _, _⟩ _ _; (refine E_ef rfl (Ef_f1 (Ef_store1 hF rfl rfl rfl rfl rfl ?_)); refine ⟨Grow.same rfl rfl, ?_⟩))))
      (refine A_drawi hF (.q 0 (.q 1 (.q 4 (.q 5 (.f 2 (.f 3 (.e 6 (.r (.e 7 (.e 8 (.e 9 (.done [])))))) 6 (.e 3 (.r (.e 7 (.e 8 (.e 9 (.done []))))))) 6 (.e 2 (.e 3 (.r (.e 7 (.e 8 (.e 9 (.done [])))))))))))) [7, 8, 9] [5, 6] [4, 3, 0, 1, 2] (by decide +kernel) (by decide) rfl ?_; simp only [Own.picks, Own.rget, List.cons_append, List.nil_append, List.append_nil])
      repeat' (first | (refine E_ef rfl (Ef_f1 (Ef_appendR hF rfl rfl rfl rfl rfl (by simp; omega) (by simp; omega) rfl ?_)); intro a cp; refine ⟨Grow.same rfl rfl, ?_⟩) | (refine E_ef rfl (Ef_f2 (Ef_appendR hF rfl rfl rfl rfl rfl (by simp; omega) (by simp; omega) rfl ?_)); intro a cp; refine ⟨Grow.same rfl rfl, ?_⟩) | (refine E_ef rfl (Ef_f1 (Ef_f2 (Ef_appendR hF rfl rfl rfl rfl rfl (by simp; omega) (by simp; omega) rfl ?_))); intro a cp; refine ⟨Grow.same rfl rfl, ?_⟩) | refine O_nil ?_ | (show drJ _ _ _ _ _ _ _ (.q _ _) _; refine D_q rfl ?_) | (show drJ _ _ _ _ _ _ _ (.e _ _) _; refine D_e rfl ?_) | (show drJ _ _ _ _ _ _ _ (.f _ _ _ _) _; refine D_f rfl rfl ?_ ?_) | (show drJ _ _ _ _ _ _ _ (.r _) _; refine D_r ?_; simp only [List.cons_append, List.nil_append]) | (show drJ _ _ _ _ _ _ _ (.done _) _; refine D_done ?_; simp only [List.cons_append, List.nil_append]) | (show drQ _ _ _ _ _ _; (show drQ _ _ _ ⟨_, .load _ _, _, _, _, _⟩ _ _; first | refine D_ev rfl (Ev_loadB1 (i := 0) rfl rfl rfl) rfl rfl ?_ | refine D_ev rfl (Ev_loadB1 (i := 1) rfl rfl rfl) rfl rfl ?_ | refine D_ev rfl (Ev_loadB (i := 2) rfl rfl rfl) rfl rfl ?_ | refine D_ev rfl (Ev_loadB (i := 3) rfl rfl rfl) rfl rfl ?_)) | (show drE _ _ _ _ _ _ _; first | (show drE _ _ _ _ ⟨_, .buildSlice _ _ _, _, _, _, _⟩ _ _; (refine E_ef rfl (Ef_build1a hF rfl rfl rfl rfl rfl ?_); intro b; refine ⟨Grow.same rfl rfl, ?_⟩)) | (show drE _ _ _ _ ⟨_, .store _ _ _, _, _, _, _⟩ _ _; (refine E_ef rfl (Ef_f3 (Ef_store1 hF rfl rfl rfl rfl rfl ?_)); refine ⟨Grow.same rfl rfl, ?_⟩))))
      all_goals
        refine RendN_to (s' := ⟨74, [], H3, [.box b3 [.int .i64 at_], .box b4 [_], .box b5 [_], .row _ 11 _, .row _ 11 _], [.obj lo (.loop (rbusy r))], []⟩) ⟨rfl, rfl, rfl, trivial, Own.subi [6, 1, 0, 3, 2, 7] (by decide) rfl rfl⟩ rfl ?_
        refine ⟨_, _, rfl, .inl ⟨rfl, rfl, _, _, _, _, _, _, _, _, rfl, rfl, rfl, ?_, ?_⟩⟩
        · rw [hls]; unfold lItem; rw [if_neg (by assumption), if_neg (by assumption)]
          exact (hcss.mono fun _ _ h => h.mono hle3).append (All2.one (hxc.mono hle3).setText)
        · rw [hrs]; unfold rItem; rw [if_neg (by assumption), if_neg (by assumption)]
          exact (hrss.mono fun _ _ h => h.mono hle3).append (All2.one (hxc.mono hle3).setText)
  · rintro v H3 I3 hle3 ⟨r', M', rfl, ⟨rfl, la, ln, lc, css, ra, rn, rc, rss, rfl, hcl, hrl, hcss, hrss⟩ | ⟨j, rfl, hE⟩⟩
    · refine ⟨_, _, rfl, by rw [hr.1]; simp, ?_⟩
      rw [hr.2]
      rw [← hn, List.take_length] at hcss hrss
      simp only [dvOwn]
      show wpA _ _ _ _ _ _ _ _
      repeat' (first | refine A_seq ?_)
      refine A_drawi WideF.wide (.q 1 (.e 0 (.e 2 (.r (.e 3 (.done [])))))) [3] [0, 1, 2, 4, 5] [3] (by decide +kernel) (by decide) rfl ?_
      simp only [Own.picks, Own.rget, List.cons_append, List.nil_append, List.append_nil]
      repeat' (first | (refine E_ef rfl (Ef_ev WideF.wide (Ev_loadB1 (i := 2) rfl rfl rfl) rfl rfl ?_); refine ⟨Grow.same rfl rfl, ?_⟩) | refine O_nil ?_ | refine A_ret ?_ | (show drJ _ _ _ _ _ _ _ (.q _ _) _; refine D_q rfl ?_) | (show drJ _ _ _ _ _ _ _ (.e _ _) _; refine D_e rfl ?_) | (show drJ _ _ _ _ _ _ _ (.r _) _; refine D_r ?_; simp only [List.cons_append, List.nil_append]) | (show drJ _ _ _ _ _ _ _ (.done _) _; refine D_done ?_; simp only [List.cons_append, List.nil_append]) | (show drQ _ _ _ _ _ _; (show drQ _ _ _ ⟨_, .load _ _, _, _, _, _⟩ _ _; refine D_ev rfl (Ev_loadB1 (i := 0) rfl rfl rfl) rfl rfl ?_)) | (show drE _ _ _ _ _ _ _; (show drE _ _ _ _ ⟨_, .store _ _ _, _, _, _, _⟩ _ _; first | (refine E_ef rfl (Ef_f2 (Ef_store1 WideF.wide rfl rfl rfl rfl rfl ?_)); refine ⟨Grow.same rfl rfl, ?_⟩) | (refine E_ef rfl (Ef_f5 (Ef_store1 WideF.wide rfl rfl rfl rfl rfl ?_)); refine ⟨Grow.same rfl rfl, ?_⟩))))
      refine Shift.lek ⟨74, dvEnv b3 b4 b5, H3, [.obj dd (.deferred (some [])), .box b4 [.slice la ln lc], .box b5 [.slice ra rn rc], .row (.slice la ln lc) 11 css, .row (.slice ra rn rc) 11 rss], [], [rmark dd]⟩ ⟨rfl, rfl, rfl, ⟨rfl, rfl, rfl, trivial⟩, Own.subi [2, 1, 0, 4, 5] (by decide) rfl rfl⟩ ?_
      refine EndM_s (RetR2 (v1 := .slice la ln lc) (v2 := .slice ra rn rc) rfl ⟨_, 0, rfl, rfl, ⟨inferInstance⟩⟩ ⟨_, 1, rfl, rfl, ⟨inferInstance⟩⟩) ?_
      refine Shift.lek ⟨74, [], H3, [.row (.slice la ln lc) 11 css, .row (.slice ra rn rc) 11 rss], [], []⟩ ⟨rfl, rfl, rfl, trivial, Own.subi [2, 3] (by decide) rfl rfl⟩ ?_
      refine Shift_freeze hcss.one_all fun H4 hle4 hr4 => Shift_freeze hrss.one_all fun H5 hle5 hr5 => Shift.pure ⟨rfl, ⟨la, ln, lc, ra, rn, rc, rfl, ⟨css, ?_, ?_⟩, ⟨rss, ?_, ?_⟩⟩, rfl⟩
      · exact hr4.mono hle5
      · exact hcss.mono fun _ _ h => h.mono (hle4.trans hle5)
      · exact hr5
      · exact hrss.mono fun _ _ h => h.mono (hle4.trans hle5)
    · exact hE.elim
end Go.Proofs.Ythbnhcgphkghaaa
