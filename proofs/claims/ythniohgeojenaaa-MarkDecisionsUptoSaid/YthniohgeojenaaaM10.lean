/-
  mark.Decide, Original, Final; Visible, Existed, Plain, IsPlain.
-/
import Derived.Test.YthniohgeojenaaaM9
namespace Go.Proofs.Ythniohgeojenaaa
open Go
set_option linter.unusedVariables false
set_option linter.unusedSimpArgs false
structure Dec where
  acc : List Int
  rej : List Int
def Dec.accB (d : Dec) (x : Int) : Bool := decide (x ∈ d.acc)
def Dec.rejB (d : Dec) (x : Int) : Bool := decide (x ∈ d.rej)
/-- the cells of a decision -/
structure DecH (H : Hp) (cs : List Value) (d : Dec) : Prop where
  ex : ∃ (aa : Option Addr) (an ac : Nat) (ra : Option Addr) (rn rc : Nat), cs = [.slice aa an ac, .slice ra rn rc] ∧ HRow H aa an ac 1 (d.acc.map irow) ∧ HRow H ra rn rc 1 (d.rej.map irow)
theorem DecH.mono {H H' : Hp} (hl : HLe H H') {cs : List Value} {d : Dec} : DecH H cs d → DecH H' cs d := fun ⟨aa, an, ac, ra, rn, rc, e, h1, h2⟩ => ⟨aa, an, ac, ra, rn, rc, e, h1.mono hl, h2.mono hl⟩
theorem irow_one (l : List Int) : ∀ cs ∈ l.map irow, ∀ u ∈ cs, u.oneCell' = true := by
  intro cs hcs u hu
  obtain ⟨p, _, rfl⟩ := List.mem_map.1 hcs
  simp [irow] at hu
  subst hu; rfl
/-- what was decided -/
def DecideIs (acc rej : Int → Bool) (q : Head) (v : Value) (H : Hp) (I : Own) : Prop := (∃ cs, v = .tuple [.agg cs.toArray, .bool (!goneB acc rej q)].toArray ∧ HeadH H cs (decH acc rej q)) ∧ I = []
attribute [local irreducible] wpA opsA drJ drQ drE Ef Ev Shift Fn
set_option maxRecDepth 100000 in
theorem Decide1_fn {H : Hp} {aa : Option Addr} {an ac : Nat} {ra : Option Addr} {rn rc : Nat} {d : Dec} {b3 : Nat} (h1 : HRow H aa an ac 1 (d.acc.map irow)) (h2 : HRow H ra rn rc 1 (d.rej.map irow)) (s1 : Inc d.acc) (s2 : Inc d.rej) (m1 : an < 68719476736) (m2 : rn < 68719476736)
    (hb : HCells H b3 0 [.slice aa an ac, .slice ra rn rc]) : Verd 48 [ptr b3] H d.accB d.rejB := by
  intro H1 hle rev
  have h1 := h1.mono hle
  have h2 := h2.mono hle
  have hb : HCells H1 b3 0 [.slice aa an ac, .slice ra rn rc] := fun j v hj => hle _ _ _ (hb j v hj)
  have f1 := has_fn (x := rev) h1 s1 (by omega)
  have f2 := has_fn (x := rev) h2 s2 (by omega)
  refine Fn_of _ _ Try.func48 rfl Try.ntmps48 rfl fun c => ?_
  repeat' (first | refine O_nil ?_ | refine A_seq ?_ | refine A_region ?_ | (show opsA _ _ _ _ _ _ _; refine O_ev WideF.wide rfl (Ev_pure rfl) rfl rfl ?_))
  (refine A_drawi WideF.wide (.q 0 (.q 1 (.q 2 (.q 4 (.q 5 (.q 6 (.e 3 (.r (.e 7 (.q 8 (.q 9 (.done [])))))))))))) [7, 8, 9] [] [] (by decide +kernel) (by decide) rfl ?_; simp only [Own.picks, Own.rget, List.cons_append, List.nil_append, List.append_nil])
  repeat' (first | (refine D_ev rfl (Ev_loadH1 rfl (hb 0 _ rfl)) rfl rfl ?_) | (refine D_ev rfl (Ev_loadH1 rfl (hb 1 _ rfl)) rfl rfl ?_) | (refine E_ef rfl (Ef_callp WideF.wide f1 ⟨rfl, rfl, trivial⟩ rfl ?_); refine ⟨Grow.same rfl rfl, ?_⟩) | (refine E_ef rfl (Ef_callp WideF.wide f2 ⟨rfl, rfl, trivial⟩ rfl ?_); refine ⟨Grow.same rfl rfl, ?_⟩) | refine O_nil ?_ | refine A_ret ?_ | (show drJ _ _ _ _ _ _ _ (.q _ _) _; refine D_q rfl ?_) | (show drJ _ _ _ _ _ _ _ (.e _ _) _; refine D_e rfl ?_) | (show drJ _ _ _ _ _ _ _ (.r _) _; refine D_r ?_; simp only [List.cons_append, List.nil_append]) | (show drJ _ _ _ _ _ _ _ (.done _) _; refine D_done ?_; simp only [List.cons_append, List.nil_append]) | (show drQ _ _ _ _ _ _; first | refine D_ev rfl (Ev_pure rfl) rfl rfl ?_ | (show drQ _ _ _ ⟨_, .fieldAddr _ _ _, _, _, _, _⟩ _ _; refine D_ev rfl (Ev_fieldAddr rfl rfl rfl) rfl rfl ?_)))
  exact End_p (Ret2 rfl rfl rfl) rfl
set_option maxRecDepth 100000 in
theorem Orig1_fn {H : Hp} : Verd 55 [] H (fun _ => false) (fun _ => true) := by
  intro H1 hle rev
  refine Fn_of _ _ Try.func55 rfl Try.ntmps55 rfl fun c => ?_
  repeat' (first | refine O_nil ?_ | refine A_seq ?_ | refine A_region ?_ | refine A_ret ?_ | (show opsA _ _ _ _ _ _ _; refine O_ev WideF.wide rfl (Ev_pure rfl) rfl rfl ?_))
  exact End_p (Ret2 rfl rfl rfl) rfl
set_option maxRecDepth 100000 in
theorem Final1_fn {H : Hp} : Verd 56 [] H (fun _ => true) (fun _ => false) := by
  intro H1 hle rev
  refine Fn_of _ _ Try.func56 rfl Try.ntmps56 rfl fun c => ?_
  repeat' (first | refine O_nil ?_ | refine A_seq ?_ | refine A_region ?_ | refine A_ret ?_ | (show opsA _ _ _ _ _ _ _; refine O_ev WideF.wide rfl (Ev_pure rfl) rfl rfl ?_))
  exact End_p (Ret2 rfl rfl rfl) rfl
set_option maxRecDepth 100000 in
theorem Decide_fn {H : Hp} {hcs dcs : List Value} {q : Head} {d : Dec} (hh : HeadH H hcs q) (hd : DecH H dcs d) (hs : IncP q.props) (hl : q.mass < 1073741824) (s1 : Inc d.acc) (s2 : Inc d.rej) (m1 : d.acc.length < 68719476736) (m2 : d.rej.length < 68719476736) :
    Fn Try.prog 15 [.agg hcs.toArray, .agg dcs.toArray] H [] (DecideIs d.accB d.rejB q) := by
  obtain ⟨pa, pn, pc, da, dn, dc, la, ln, lc, rfl, h1, h2, h3⟩ := hh.ex
  obtain ⟨aa, an, ac, ra, rn, rc, rfl, g1, g2⟩ := hd.ex
  have l1 := g1.len
  have l2 := g2.len
  simp only [List.length_map] at l1 l2
  refine Fn_of _ _ Try.func15 rfl Try.ntmps15 rfl fun c => ?_
  refine A_seq ?_
  refine A_cutu (fun s => ∃ b2 b3 b4, s = ⟨11, [(2, ptr b2), (3, ptr b3), (4, ptr b4), (5, .bool false)], H, [.box b3 [.slice aa an ac, .slice ra rn rc], .box b2 [.slice pa pn pc, .int .i64 q.ins, .int .i64 q.move, .slice da dn dc, .slice la ln lc], .box b4 zHead], [], []⟩) ?_ ?_
  · repeat' (first | refine O_nil ?_ | refine A_region ?_ | (show opsA _ _ _ _ _ _ _; first | refine O_ev WideF.wide rfl (Ev_pure rfl) rfl rfl ?_ | (show opsA _ _ _ _ (⟨_, .alloc _, _, _, _, _⟩ :: _) _ _; (refine O_ef rfl (Ef_alloc WideF.wide rfl ?_); intro b)) | (show opsA _ _ _ _ (⟨_, .box _ _, _, _, _, _⟩ :: _) _ _; (refine O_ef rfl (Ef_boxa WideF.wide rfl rfl ?_); intro b))))
    exact Shift.to ⟨_, _, _, rfl⟩ ⟨rfl, rfl, rfl, ⟨rfl, rfl, rfl, rfl, trivial⟩, Own.subi [1, 2, 0] (by decide) rfl rfl⟩
  rintro s ⟨b2, b3, b4, rfl⟩
  refine A_freezeBox (by intro u hu; simp at hu; rcases hu with rfl | rfl <;> rfl) ?_
  intro H1 hle1 hb3
  have hv := Decide1_fn (g1.mono hle1) (g2.mono hle1) s1 s2 (by omega) (by omega) hb3
  have hdec := decide_fn (hh.mono hle1) hs hl hv
  repeat' (first | (refine O_ev WideF.wide rfl (Ev_makeFunc (xs := []) (vs := []) (ys := [.tmp 3]) (us := [.pointer (some ⟨_, 0, none⟩)]) rfl rfl) rfl rfl ?_) | (refine O_ef rfl (Ef_call (I := []) WideF.wide hdec ⟨rfl, rfl, trivial⟩ rfl ?_); rintro v H2 I2 hle2 ⟨⟨cs', rfl, hcs⟩, rfl⟩; obtain ⟨pa', pn', pc', da', dn', dc', la', ln', lc', rfl, h1', h2', h3'⟩ := hcs.ex) | refine O_nil ?_ | refine A_seq ?_ | refine A_region ?_ | refine A_ret ?_ | (show opsA _ _ _ _ _ _ _; first | refine O_ev WideF.wide rfl (Ev_pure rfl) rfl rfl ?_ | (show opsA _ _ _ _ (⟨_, .load _ _, _, _, _, _⟩ :: _) _ _; refine O_ev WideF.wide rfl (Ev_loadB (i := 0) rfl rfl rfl) rfl rfl ?_) | (show opsA _ _ _ _ (⟨_, .store _ _ _, _, _, _, _⟩ :: _) _ _; refine O_f1 (O_ef rfl (Ef_storew WideF.wide rfl rfl rfl rfl rfl ?_)))))
  first | (refine End_e (RetT2 rfl rfl (i := 0) rfl rfl rfl) ?_) | (refine End_e (RetT2 rfl rfl (i := 1) rfl rfl rfl) ?_)
  exact ⟨⟨_, rfl, hcs⟩, rfl⟩
set_option maxRecDepth 100000 in
theorem Original_fn {H : Hp} {hcs : List Value} {q : Head} (hh : HeadH H hcs q) (hs : IncP q.props) (hl : q.mass < 1073741824) :
    Fn Try.prog 19 [.agg hcs.toArray] H [] (DecideIs (fun _ => false) (fun _ => true) q) := by
  obtain ⟨pa, pn, pc, da, dn, dc, la, ln, lc, rfl, h1, h2, h3⟩ := hh.ex
  have hdec := decide_fn hh hs hl (Orig1_fn (H := H))
  refine Fn_of _ _ Try.func19 rfl Try.ntmps19 rfl fun c => ?_
  repeat' (first | (refine O_ef rfl (Ef_call (I := []) WideF.wide hdec ⟨rfl, rfl, trivial⟩ rfl ?_); rintro v H2 I2 hle2 ⟨⟨cs', rfl, hcs⟩, rfl⟩; obtain ⟨pa', pn', pc', da', dn', dc', la', ln', lc', rfl, h1', h2', h3'⟩ := hcs.ex) | refine O_nil ?_ | refine A_seq ?_ | refine A_region ?_ | refine A_ret ?_ | (show opsA _ _ _ _ _ _ _; first | refine O_ev WideF.wide rfl (Ev_pure rfl) rfl rfl ?_ | (show opsA _ _ _ _ (⟨_, .load _ _, _, _, _, _⟩ :: _) _ _; refine O_ev WideF.wide rfl (Ev_loadB (i := 1) rfl rfl rfl) rfl rfl ?_) | (show opsA _ _ _ _ (⟨_, .alloc _, _, _, _, _⟩ :: _) _ _; (refine O_ef rfl (Ef_alloc WideF.wide rfl ?_); intro b)) | (show opsA _ _ _ _ (⟨_, .box _ _, _, _, _, _⟩ :: _) _ _; (refine O_ef rfl (Ef_boxa WideF.wide rfl rfl ?_); intro b)) | (show opsA _ _ _ _ (⟨_, .store _ _ _, _, _, _, _⟩ :: _) _ _; refine O_ef rfl (Ef_storew WideF.wide rfl rfl rfl rfl rfl ?_))))
  first | (refine End_e (RetT2 rfl rfl (i := 0) rfl rfl rfl) ?_) | (refine End_e (RetT2 rfl rfl (i := 1) rfl rfl rfl) ?_)
  exact ⟨⟨_, rfl, hcs⟩, rfl⟩
set_option maxRecDepth 100000 in
theorem Final_fn {H : Hp} {hcs : List Value} {q : Head} (hh : HeadH H hcs q) (hs : IncP q.props) (hl : q.mass < 1073741824) :
    Fn Try.prog 20 [.agg hcs.toArray] H [] (DecideIs (fun _ => true) (fun _ => false) q) := by
  obtain ⟨pa, pn, pc, da, dn, dc, la, ln, lc, rfl, h1, h2, h3⟩ := hh.ex
  have hdec := decide_fn hh hs hl (Final1_fn (H := H))
  refine Fn_of _ _ Try.func20 rfl Try.ntmps20 rfl fun c => ?_
  repeat' (first | (refine O_ef rfl (Ef_call (I := []) WideF.wide hdec ⟨rfl, rfl, trivial⟩ rfl ?_); rintro v H2 I2 hle2 ⟨⟨cs', rfl, hcs⟩, rfl⟩; obtain ⟨pa', pn', pc', da', dn', dc', la', ln', lc', rfl, h1', h2', h3'⟩ := hcs.ex) | refine O_nil ?_ | refine A_seq ?_ | refine A_region ?_ | refine A_ret ?_ | (show opsA _ _ _ _ _ _ _; first | refine O_ev WideF.wide rfl (Ev_pure rfl) rfl rfl ?_ | (show opsA _ _ _ _ (⟨_, .load _ _, _, _, _, _⟩ :: _) _ _; refine O_ev WideF.wide rfl (Ev_loadB (i := 1) rfl rfl rfl) rfl rfl ?_) | (show opsA _ _ _ _ (⟨_, .alloc _, _, _, _, _⟩ :: _) _ _; (refine O_ef rfl (Ef_alloc WideF.wide rfl ?_); intro b)) | (show opsA _ _ _ _ (⟨_, .box _ _, _, _, _, _⟩ :: _) _ _; (refine O_ef rfl (Ef_boxa WideF.wide rfl rfl ?_); intro b)) | (show opsA _ _ _ _ (⟨_, .store _ _ _, _, _, _, _⟩ :: _) _ _; refine O_ef rfl (Ef_storew WideF.wide rfl rfl rfl rfl rfl ?_))))
  first | (refine End_e (RetT2 rfl rfl (i := 0) rfl rfl rfl) ?_) | (refine End_e (RetT2 rfl rfl (i := 1) rfl rfl rfl) ?_)
  exact ⟨⟨_, rfl, hcs⟩, rfl⟩
set_option maxRecDepth 100000 in
theorem Visible_fn {H : Hp} {hcs : List Value} {q : Head} (hh : HeadH H hcs q) : FnP Try.prog 23 [.agg hcs.toArray] H (.bool (decide (q.dels = []))) := by
  obtain ⟨pa, pn, pc, da, dn, dc, la, ln, lc, rfl, h1, h2, h3⟩ := hh.ex
  have l2 := h2.len
  simp only [List.length_map] at l2
  have e : decide (q.dels = []) = decide ((dn : Int) = 0) := by
    rw [← l2]
    by_cases h : q.dels = []
    · simp [h]
    · have : q.dels.length ≠ 0 := fun e => h (List.length_eq_zero_iff.1 e)
      simp [h]
  rw [e]
  refine Fn_of _ _ Try.func23 rfl Try.ntmps23 rfl fun c => ?_
  repeat' (first | refine O_nil ?_ | refine A_seq ?_ | refine A_region ?_ | refine A_ret ?_ | (show opsA _ _ _ _ _ _ _; first | refine O_ev WideF.wide rfl (Ev_pure rfl) rfl rfl ?_ | (show opsA _ _ _ _ (⟨_, .load _ _, _, _, _, _⟩ :: _) _ _; refine O_ev WideF.wide rfl (Ev_loadB1 (i := 0) rfl rfl rfl) rfl rfl ?_) | (show opsA _ _ _ _ (⟨_, .fieldAddr _ _ _, _, _, _, _⟩ :: _) _ _; refine O_ev WideF.wide rfl (Ev_fieldAddr rfl rfl rfl) rfl rfl ?_) | (show opsA _ _ _ _ (⟨_, .call _, _, _, _, _⟩ :: _) _ _; refine O_ev WideF.wide rfl (Ev_llen rfl) rfl rfl ?_) | (show opsA _ _ _ _ (⟨_, .box _ _, _, _, _, _⟩ :: _) _ _; (refine O_ef rfl (Ef_boxa WideF.wide rfl rfl ?_); intro b))))
  exact End_p (Ret1 rfl rfl) rfl
set_option maxRecDepth 100000 in
theorem Existed_fn {H : Hp} {hcs : List Value} {q : Head} (hh : HeadH H hcs q) : FnP Try.prog 22 [.agg hcs.toArray] H (.bool (decide (q.ins = 0))) := by
  obtain ⟨pa, pn, pc, da, dn, dc, la, ln, lc, rfl, h1, h2, h3⟩ := hh.ex
  refine Fn_of _ _ Try.func22 rfl Try.ntmps22 rfl fun c => ?_
  repeat' (first | refine O_nil ?_ | refine A_seq ?_ | refine A_region ?_ | refine A_ret ?_ | (show opsA _ _ _ _ _ _ _; first | refine O_ev WideF.wide rfl (Ev_pure rfl) rfl rfl ?_ | (show opsA _ _ _ _ (⟨_, .load _ _, _, _, _, _⟩ :: _) _ _; refine O_ev WideF.wide rfl (Ev_loadB1 (i := 0) rfl rfl rfl) rfl rfl ?_) | (show opsA _ _ _ _ (⟨_, .fieldAddr _ _ _, _, _, _, _⟩ :: _) _ _; refine O_ev WideF.wide rfl (Ev_fieldAddr rfl rfl rfl) rfl rfl ?_) | (show opsA _ _ _ _ (⟨_, .box _ _, _, _, _, _⟩ :: _) _ _; (refine O_ef rfl (Ef_boxa WideF.wide rfl rfl ?_); intro b))))
  exact End_p (Ret1 rfl rfl) rfl
set_option maxRecDepth 100000 in
theorem IsPlain_fn {H : Hp} {hcs : List Value} {q : Head} (hh : HeadH H hcs q) : FnP Try.prog 24 [.agg hcs.toArray] H (.bool (decide (q.ins = 0 ∧ q.move = 0 ∧ q.dels = [] ∧ q.layers = []))) := by
  obtain ⟨pa, pn, pc, da, dn, dc, la, ln, lc, rfl, h1, h2, h3⟩ := hh.ex
  have l2 := h2.len
  have l3 := h3.len
  simp only [List.length_map] at l2 l3
  have e2 : q.dels = [] ↔ (dn : Int) = 0 := by
    rw [← l2, ← List.length_eq_zero_iff]; omega
  have e3 : q.layers = [] ↔ (ln : Int) = 0 := by
    rw [← l3, ← List.length_eq_zero_iff]; omega
  simp only [e2, e3]
  refine Fn_of _ _ Try.func24 rfl Try.ntmps24 rfl fun c => ?_
  repeat' (first | refine O_nil ?_ | refine A_seq ?_ | refine A_region ?_ | refine A_ret ?_ | (show opsA _ _ _ _ _ _ _; first | (refine O_split rfl rfl (fun h => ?_) (fun h => ?_) <;> try (exfalso; omega)) | refine O_ev WideF.wide rfl (Ev_pure rfl) rfl rfl ?_ | (show opsA _ _ _ _ (⟨_, .load _ _, _, _, _, _⟩ :: _) _ _; first | refine O_ev WideF.wide rfl (Ev_loadB1 (i := 0) rfl rfl rfl) rfl rfl ?_ | refine O_ev WideF.wide rfl (Ev_loadBs (i := 0) rfl rfl rfl rfl) rfl rfl ?_) | (show opsA _ _ _ _ (⟨_, .fieldAddr _ _ _, _, _, _, _⟩ :: _) _ _; refine O_ev WideF.wide rfl (Ev_fieldAddr rfl rfl rfl) rfl rfl ?_) | (show opsA _ _ _ _ (⟨_, .call _, _, _, _, _⟩ :: _) _ _; refine O_ev WideF.wide rfl (Ev_llen rfl) rfl rfl ?_) | (show opsA _ _ _ _ (⟨_, .alloc _, _, _, _, _⟩ :: _) _ _; (refine O_ef rfl (Ef_alloc WideF.wide rfl ?_); intro b)) | (show opsA _ _ _ _ (⟨_, .box _ _, _, _, _, _⟩ :: _) _ _; (refine O_ef rfl (Ef_boxa WideF.wide rfl rfl ?_); intro b)) | (show opsA _ _ _ _ (⟨_, .store _ _ _, _, _, _, _⟩ :: _) _ _; refine O_ef rfl (Ef_storew WideF.wide rfl rfl rfl rfl rfl ?_)) | refine O_skip WideF.wide rfl rfl rfl ?_))
  all_goals
    refine End_p (Ret1 rfl rfl) ?_
    refine congrArg Value.bool ?_
    rw [Bool.eq_iff_iff]
    simp [*] <;> omega
set_option maxRecDepth 100000 in
theorem Plain_fn {H : Hp} {hcs : List Value} {q : Head} (hh : HeadH H hcs q) (hl : q.mass < 1073741824) : Fn Try.prog 21 [.agg hcs.toArray] H [] (HeadIs ⟨q.props, 0, 0, [], []⟩) := by
  obtain ⟨pa, pn, pc, da, dn, dc, la, ln, lc, rfl, h1, h2, h3⟩ := hh.ex
  have l1 := h1.len
  simp only [List.length_map] at l1
  unfold Head.mass at hl
  have hc := pClone_fz h1 (by omega)
  refine Fn_of _ _ Try.func21 rfl Try.ntmps21 rfl fun c => ?_
  repeat' (first | (refine O_ef rfl (Ef_call (I := []) WideF.wide hc ⟨rfl, trivial⟩ rfl ?_); rintro v H2 I2 hle2 ⟨⟨pa', pn', pc', rfl, hr⟩, rfl⟩) | refine O_nil ?_ | refine A_seq ?_ | refine A_region ?_ | refine A_ret ?_ | (show opsA _ _ _ _ _ _ _; first | (show opsA _ _ _ _ (⟨_, .load _ _, _, _, _, _⟩ :: _) _ _; refine O_ev WideF.wide rfl (Ev_loadB1 (i := 1) rfl rfl rfl) rfl rfl ?_) | (show opsA _ _ _ _ (⟨_, .fieldAddr _ _ _, _, _, _, _⟩ :: _) _ _; refine O_ev WideF.wide rfl (Ev_fieldAddr rfl rfl rfl) rfl rfl ?_) | (show opsA _ _ _ _ (⟨_, .build _ _, _, _, _, _⟩ :: _) _ _; refine O_ev WideF.wide rfl (Ev_build (vs := [(_, _)]) ⟨rfl, rfl, trivial⟩ rfl) rfl rfl ?_) | (show opsA _ _ _ _ (⟨_, .alloc _, _, _, _, _⟩ :: _) _ _; (refine O_ef rfl (Ef_alloc WideF.wide rfl ?_); intro b)) | (show opsA _ _ _ _ (⟨_, .box _ _, _, _, _, _⟩ :: _) _ _; (refine O_ef rfl (Ef_boxa WideF.wide rfl rfl ?_); intro b)) | (show opsA _ _ _ _ (⟨_, .store _ _ _, _, _, _, _⟩ :: _) _ _; refine O_ef rfl (Ef_storew WideF.wide rfl rfl rfl rfl rfl ?_))))
  first | (refine End_e (RetC rfl rfl (i := 0) rfl rfl) ?_) | (refine End_e (RetC rfl rfl (i := 1) rfl rfl) ?_)
  exact ⟨⟨_, rfl, ⟨⟨pa', pn', pc', none, 0, 0, none, 0, 0, rfl, hr, HRow.nil' _ _, HRow.nil' _ _⟩⟩⟩, rfl⟩
end Go.Proofs.Ythniohgeojenaaa
