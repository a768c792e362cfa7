/-
  States of keys: mark.present, before, from, with; the law's present and with.
-/
import Derived.Test.YthniohgeojenaaaM5
namespace Go.Proofs.Ythniohgeojenaaa
open Go
set_option linter.unusedVariables false
set_option linter.unusedSimpArgs false
attribute [local irreducible] wpA opsA drJ drQ drE Ef Ev Shift Fn
abbrev stv (s : St) : Value := .agg [.int .i64 s.val, .bool s.set].toArray
/-- a head that was handed back -/
def HeadIs (h : Head) (v : Value) (H : Hp) (I : Own) : Prop := (∃ cs, v = .agg cs.toArray ∧ HeadH H cs h) ∧ I = []
def setProps (h : Head) (l : List Prp) : Head := { h with props := l }
def withS (h : Head) (k : Int) (s : St) : Head := setProps h (withP h.props k s)
def Layr.st (y : Layr) : St := ⟨y.before, y.had⟩
def Layr.put (y : Layr) (s : St) : Layr := ⟨y.rev, y.key, s.val, s.set⟩
set_option maxRecDepth 100000 in
theorem present_fn {H : Hp} {hcs : List Value} {h : Head} {k : Int} (hh : HeadH H hcs h) (hs : IncP h.props) (hm : h.props.length < 34359738368) :
    FnP Try.prog 66 [.agg hcs.toArray, .int .i64 k] H (stv (getP h.props k)) := by
  obtain ⟨pa, pn, pc, da, dn, dc, la, ln, lc, rfl, h1, h2, h3⟩ := hh.ex
  have l1 := h1.len
  simp only [List.length_map] at l1
  have hg := Get_fn (k := k) h1 hs (by omega)
  refine Fn_of _ _ Try.func66 rfl Try.ntmps66 rfl fun c => ?_
  repeat' (first | (refine O_ef rfl (Ef_callp WideF.wide hg ⟨rfl, rfl, trivial⟩ rfl ?_)) | refine O_nil ?_ | refine A_seq ?_ | refine A_region ?_ | refine A_ret ?_ | (show opsA _ _ _ _ _ _ _; first | refine O_ev WideF.wide rfl (Ev_pure rfl) rfl rfl ?_ | (show opsA _ _ _ _ (⟨_, .load _ _, _, _, _, _⟩ :: _) _ _; refine O_ev WideF.wide rfl (Ev_loadB1 (i := 1) rfl rfl rfl) rfl rfl ?_) | (show opsA _ _ _ _ (⟨_, .fieldAddr _ _ _, _, _, _, _⟩ :: _) _ _; refine O_ev WideF.wide rfl (Ev_fieldAddr rfl rfl rfl) rfl rfl ?_) | (show opsA _ _ _ _ (⟨_, .build _ _, _, _, _, _⟩ :: _) _ _; refine O_ev WideF.wide rfl (Ev_build (vs := [(_, _), (_, _)]) ⟨rfl, rfl, rfl, rfl, trivial⟩ rfl) rfl rfl ?_) | (show opsA _ _ _ _ (⟨_, .alloc _, _, _, _, _⟩ :: _) _ _; (refine O_ef rfl (Ef_alloc WideF.wide rfl ?_); intro b)) | (show opsA _ _ _ _ (⟨_, .box _ _, _, _, _, _⟩ :: _) _ _; (refine O_ef rfl (Ef_boxa WideF.wide rfl rfl ?_); intro b)) | (show opsA _ _ _ _ (⟨_, .store _ _ _, _, _, _, _⟩ :: _) _ _; refine O_ef rfl (Ef_storew WideF.wide rfl rfl rfl rfl rfl ?_))))
  exact End_p (RetC rfl rfl (i := 0) rfl rfl) rfl
set_option maxRecDepth 100000 in
theorem lawPresent_fn {H : Hp} {hcs : List Value} {h : Head} {k : Int} (hh : HeadH H hcs h) (hs : IncP h.props) (hm : h.props.length < 34359738368) :
    FnP Try.prog 60 [.agg hcs.toArray, .int .i64 k] H (stv (getP h.props k)) := by
  obtain ⟨pa, pn, pc, da, dn, dc, la, ln, lc, rfl, h1, h2, h3⟩ := hh.ex
  have l1 := h1.len
  simp only [List.length_map] at l1
  have hg := Get_fn (k := k) h1 hs (by omega)
  refine Fn_of _ _ Try.func60 rfl Try.ntmps60 rfl fun c => ?_
  repeat' (first | (refine O_ef rfl (Ef_callp WideF.wide hg ⟨rfl, rfl, trivial⟩ rfl ?_)) | refine O_nil ?_ | refine A_seq ?_ | refine A_region ?_ | refine A_ret ?_ | (show opsA _ _ _ _ _ _ _; first | refine O_ev WideF.wide rfl (Ev_pure rfl) rfl rfl ?_ | (show opsA _ _ _ _ (⟨_, .load _ _, _, _, _, _⟩ :: _) _ _; refine O_ev WideF.wide rfl (Ev_loadB1 (i := 1) rfl rfl rfl) rfl rfl ?_) | (show opsA _ _ _ _ (⟨_, .fieldAddr _ _ _, _, _, _, _⟩ :: _) _ _; refine O_ev WideF.wide rfl (Ev_fieldAddr rfl rfl rfl) rfl rfl ?_) | (show opsA _ _ _ _ (⟨_, .build _ _, _, _, _, _⟩ :: _) _ _; refine O_ev WideF.wide rfl (Ev_build (vs := [(_, _), (_, _)]) ⟨rfl, rfl, rfl, rfl, trivial⟩ rfl) rfl rfl ?_) | (show opsA _ _ _ _ (⟨_, .alloc _, _, _, _, _⟩ :: _) _ _; (refine O_ef rfl (Ef_alloc WideF.wide rfl ?_); intro b)) | (show opsA _ _ _ _ (⟨_, .box _ _, _, _, _, _⟩ :: _) _ _; (refine O_ef rfl (Ef_boxa WideF.wide rfl rfl ?_); intro b)) | (show opsA _ _ _ _ (⟨_, .store _ _ _, _, _, _, _⟩ :: _) _ _; refine O_ef rfl (Ef_storew WideF.wide rfl rfl rfl rfl rfl ?_))))
  exact End_p (RetC rfl rfl (i := 0) rfl rfl) rfl
set_option maxRecDepth 100000 in
theorem before_fn {H : Hp} {y : Layr} : FnP Try.prog 67 [.agg (lrow y).toArray] H (stv y.st) := by
  unfold lrow
  refine Fn_of _ _ Try.func67 rfl Try.ntmps67 rfl fun c => ?_
  repeat' (first | refine O_nil ?_ | refine A_seq ?_ | refine A_region ?_ | refine A_ret ?_ | (show opsA _ _ _ _ _ _ _; first | (show opsA _ _ _ _ (⟨_, .load _ _, _, _, _, _⟩ :: _) _ _; refine O_ev WideF.wide rfl (Ev_loadB1 (i := 1) rfl rfl rfl) rfl rfl ?_) | (show opsA _ _ _ _ (⟨_, .fieldAddr _ _ _, _, _, _, _⟩ :: _) _ _; refine O_ev WideF.wide rfl (Ev_fieldAddr rfl rfl rfl) rfl rfl ?_) | (show opsA _ _ _ _ (⟨_, .build _ _, _, _, _, _⟩ :: _) _ _; refine O_ev WideF.wide rfl (Ev_build (vs := [(_, _), (_, _)]) ⟨rfl, rfl, rfl, rfl, trivial⟩ rfl) rfl rfl ?_) | (show opsA _ _ _ _ (⟨_, .alloc _, _, _, _, _⟩ :: _) _ _; (refine O_ef rfl (Ef_alloc WideF.wide rfl ?_); intro b)) | (show opsA _ _ _ _ (⟨_, .box _ _, _, _, _, _⟩ :: _) _ _; (refine O_ef rfl (Ef_boxa WideF.wide rfl rfl ?_); intro b)) | (show opsA _ _ _ _ (⟨_, .store _ _ _, _, _, _, _⟩ :: _) _ _; refine O_ef rfl (Ef_storew WideF.wide rfl rfl rfl rfl rfl ?_))))
  exact End_p (RetC rfl rfl (i := 0) rfl rfl) rfl
set_option maxRecDepth 100000 in
theorem from_fn {H : Hp} {y : Layr} {s : St} : FnP Try.prog 70 [.agg (lrow y).toArray, stv s] H (.agg (lrow (y.put s)).toArray) := by
  unfold lrow
  refine Fn_of _ _ Try.func70 rfl Try.ntmps70 rfl fun c => ?_
  repeat' (first | refine O_nil ?_ | refine A_seq ?_ | refine A_region ?_ | (show opsA _ _ _ _ _ _ _; first | (show opsA _ _ _ _ (⟨_, .alloc _, _, _, _, _⟩ :: _) _ _; (refine O_ef rfl (Ef_alloc WideF.wide rfl ?_); intro b)) | (show opsA _ _ _ _ (⟨_, .box _ _, _, _, _, _⟩ :: _) _ _; (refine O_ef rfl (Ef_boxa WideF.wide rfl rfl ?_); intro b))))
  (refine A_drawi WideF.wide (.q 0 (.q 1 (.q 2 (.q 3 (.q 4 (.e 5 (.r (.q 6 (.e 7 (.done [])))))))))) [6, 7] [2] [1, 0] (by decide +kernel) (by decide) rfl ?_; simp only [Own.picks, Own.rget, List.cons_append, List.nil_append, List.append_nil])
  repeat' (first | refine O_nil ?_ | refine A_seq ?_ | refine A_region ?_ | refine A_ret ?_ | (show drJ _ _ _ _ _ _ _ (.q _ _) _; refine D_q rfl ?_) | (show drJ _ _ _ _ _ _ _ (.e _ _) _; refine D_e rfl ?_) | (show drJ _ _ _ _ _ _ _ (.r _) _; refine D_r ?_; simp only [List.cons_append, List.nil_append]) | (show drJ _ _ _ _ _ _ _ (.done _) _; refine D_done ?_; simp only [List.cons_append, List.nil_append]) | (show drQ _ _ _ _ _ _; first | (show drQ _ _ _ ⟨_, .load _ _, _, _, _, _⟩ _ _; refine D_ev rfl (Ev_loadB1 (i := 0) rfl rfl rfl) rfl rfl ?_) | (show drQ _ _ _ ⟨_, .fieldAddr _ _ _, _, _, _, _⟩ _ _; refine D_ev rfl (Ev_fieldAddr rfl rfl rfl) rfl rfl ?_)) | (show drE _ _ _ _ _ _ _; (show drE _ _ _ _ ⟨_, .store _ _ _, _, _, _, _⟩ _ _; (refine E_ef rfl (Ef_store1 WideF.wide rfl rfl rfl rfl rfl ?_); refine ⟨Grow.same rfl rfl, ?_⟩))) | (show opsA _ _ _ _ _ _ _; first | (show opsA _ _ _ _ (⟨_, .load _ _, _, _, _, _⟩ :: _) _ _; refine O_ev WideF.wide rfl (Ev_loadB (i := 0) rfl rfl rfl) rfl rfl ?_) | (show opsA _ _ _ _ (⟨_, .store _ _ _, _, _, _, _⟩ :: _) _ _; refine O_f2 (O_ef rfl (Ef_storew WideF.wide rfl rfl rfl rfl rfl ?_)))))
  first | exact End_p (RetC rfl rfl (i := 0) rfl rfl) rfl | exact End_p (RetC rfl rfl (i := 1) rfl rfl) rfl | exact End_p (RetC rfl rfl (i := 2) rfl rfl) rfl
set_option maxRecDepth 100000 in
theorem with_fn {H : Hp} {hcs : List Value} {h : Head} {k : Int} {s : St} (hh : HeadH H hcs h) (hs : IncP h.props) (hm : h.props.length < 34359738368) :
    Fn Try.prog 71 [.agg hcs.toArray, .int .i64 k, stv s] H [] (HeadIs (withS h k s)) := by
  obtain ⟨pa, pn, pc, da, dn, dc, la, ln, lc, rfl, h1, h2, h3⟩ := hh.ex
  have l1 := h1.len
  simp only [List.length_map] at l1
  have hst := pSet_fn (k := k) (x := s.val) h1 hs (by omega)
  have hcl := pClear_fn (k := k) h1 hs (by omega)
  obtain ⟨sv, sb⟩ := s
  cases sb with
  | false =>
    refine Fn_of _ _ Try.func71 rfl Try.ntmps71 rfl fun c => ?_
    repeat' (first | (refine O_ef rfl (Ef_call (I := []) WideF.wide hcl ⟨rfl, rfl, trivial⟩ rfl ?_); rintro v H1 I1 hle1 ⟨⟨pa', pn', pc', rfl, hr⟩, rfl⟩) | refine O_nil ?_ | refine A_seq ?_ | refine A_region ?_ | refine A_ret ?_ | (show opsA _ _ _ _ _ _ _; first | refine O_ev WideF.wide rfl (Ev_pure rfl) rfl rfl ?_ | (show opsA _ _ _ _ (⟨_, .load _ _, _, _, _, _⟩ :: _) _ _; first | refine O_ev WideF.wide rfl (Ev_loadB1 (i := 1) rfl rfl rfl) rfl rfl ?_ | refine O_ev WideF.wide rfl (Ev_loadB1 (i := 2) rfl rfl rfl) rfl rfl ?_ | refine O_ev WideF.wide rfl (Ev_loadB (i := 0) rfl rfl rfl) rfl rfl ?_) | (show opsA _ _ _ _ (⟨_, .fieldAddr _ _ _, _, _, _, _⟩ :: _) _ _; refine O_ev WideF.wide rfl (Ev_fieldAddr rfl rfl rfl) rfl rfl ?_) | (show opsA _ _ _ _ (⟨_, .alloc _, _, _, _, _⟩ :: _) _ _; (refine O_ef rfl (Ef_alloc WideF.wide rfl ?_); intro b)) | (show opsA _ _ _ _ (⟨_, .box _ _, _, _, _, _⟩ :: _) _ _; (refine O_ef rfl (Ef_boxa WideF.wide rfl rfl ?_); intro b)) | (show opsA _ _ _ _ (⟨_, .store _ _ _, _, _, _, _⟩ :: _) _ _; first | refine O_f1 (O_ef rfl (Ef_storew WideF.wide rfl rfl rfl rfl rfl ?_)) | refine O_f2 (O_ef rfl (Ef_store1 WideF.wide rfl rfl rfl rfl rfl ?_)))) | (show wpA _ _ _ (.cond _ _ _) _ _ _ _; refine A_iffalse rfl ?_))
    first | (refine End_e (RetC rfl rfl (i := 0) rfl rfl) ?_) | (refine End_e (RetC rfl rfl (i := 1) rfl rfl) ?_) | (refine End_e (RetC rfl rfl (i := 2) rfl rfl) ?_)
    refine ⟨⟨_, rfl, ⟨⟨pa', pn', pc', da, dn, dc, la, ln, lc, rfl, ?_, h2.mono hle1, h3.mono hle1⟩⟩⟩, rfl⟩
    exact hr
  | true =>
    refine Fn_of _ _ Try.func71 rfl Try.ntmps71 rfl fun c => ?_
    repeat' (first | (refine O_ef rfl (Ef_call (I := []) WideF.wide hst ⟨rfl, rfl, rfl, trivial⟩ rfl ?_); rintro v H1 I1 hle1 ⟨⟨pa', pn', pc', rfl, hr⟩, rfl⟩) | refine O_nil ?_ | refine A_seq ?_ | refine A_region ?_ | refine A_ret ?_ | (show opsA _ _ _ _ _ _ _; first | refine O_ev WideF.wide rfl (Ev_pure rfl) rfl rfl ?_ | (show opsA _ _ _ _ (⟨_, .load _ _, _, _, _, _⟩ :: _) _ _; first | refine O_ev WideF.wide rfl (Ev_loadB1 (i := 1) rfl rfl rfl) rfl rfl ?_ | refine O_ev WideF.wide rfl (Ev_loadB1 (i := 2) rfl rfl rfl) rfl rfl ?_ | refine O_ev WideF.wide rfl (Ev_loadB (i := 0) rfl rfl rfl) rfl rfl ?_) | (show opsA _ _ _ _ (⟨_, .fieldAddr _ _ _, _, _, _, _⟩ :: _) _ _; refine O_ev WideF.wide rfl (Ev_fieldAddr rfl rfl rfl) rfl rfl ?_) | (show opsA _ _ _ _ (⟨_, .alloc _, _, _, _, _⟩ :: _) _ _; (refine O_ef rfl (Ef_alloc WideF.wide rfl ?_); intro b)) | (show opsA _ _ _ _ (⟨_, .box _ _, _, _, _, _⟩ :: _) _ _; (refine O_ef rfl (Ef_boxa WideF.wide rfl rfl ?_); intro b)) | (show opsA _ _ _ _ (⟨_, .store _ _ _, _, _, _, _⟩ :: _) _ _; first | refine O_f1 (O_ef rfl (Ef_storew WideF.wide rfl rfl rfl rfl rfl ?_)) | refine O_f2 (O_ef rfl (Ef_store1 WideF.wide rfl rfl rfl rfl rfl ?_)))) | (show wpA _ _ _ (.cond _ _ _) _ _ _ _; refine A_iftrue rfl ?_))
    first | (refine End_e (RetC rfl rfl (i := 0) rfl rfl) ?_) | (refine End_e (RetC rfl rfl (i := 1) rfl rfl) ?_) | (refine End_e (RetC rfl rfl (i := 2) rfl rfl) ?_)
    refine ⟨⟨_, rfl, ⟨⟨pa', pn', pc', da, dn, dc, la, ln, lc, rfl, ?_, h2.mono hle1, h3.mono hle1⟩⟩⟩, rfl⟩
    exact hr
set_option maxRecDepth 100000 in
theorem lawWith_fn {H : Hp} {hcs : List Value} {h : Head} {k : Int} {s : St} (hh : HeadH H hcs h) (hs : IncP h.props) (hm : h.props.length < 34359738368) :
    Fn Try.prog 26 [.agg hcs.toArray, .int .i64 k, stv s] H [] (HeadIs (withS h k s)) := by
  obtain ⟨pa, pn, pc, da, dn, dc, la, ln, lc, rfl, h1, h2, h3⟩ := hh.ex
  have l1 := h1.len
  simp only [List.length_map] at l1
  have hst := pSet_fn (k := k) (x := s.val) h1 hs (by omega)
  have hcl := pClear_fn (k := k) h1 hs (by omega)
  obtain ⟨sv, sb⟩ := s
  cases sb with
  | false =>
    refine Fn_of _ _ Try.func26 rfl Try.ntmps26 rfl fun c => ?_
    repeat' (first | (refine O_ef rfl (Ef_call (I := []) WideF.wide hcl ⟨rfl, rfl, trivial⟩ rfl ?_); rintro v H1 I1 hle1 ⟨⟨pa', pn', pc', rfl, hr⟩, rfl⟩) | refine O_nil ?_ | refine A_seq ?_ | refine A_region ?_ | refine A_ret ?_ | (show opsA _ _ _ _ _ _ _; first | refine O_ev WideF.wide rfl (Ev_pure rfl) rfl rfl ?_ | (show opsA _ _ _ _ (⟨_, .load _ _, _, _, _, _⟩ :: _) _ _; first | refine O_ev WideF.wide rfl (Ev_loadB1 (i := 1) rfl rfl rfl) rfl rfl ?_ | refine O_ev WideF.wide rfl (Ev_loadB1 (i := 2) rfl rfl rfl) rfl rfl ?_ | refine O_ev WideF.wide rfl (Ev_loadB (i := 0) rfl rfl rfl) rfl rfl ?_) | (show opsA _ _ _ _ (⟨_, .fieldAddr _ _ _, _, _, _, _⟩ :: _) _ _; refine O_ev WideF.wide rfl (Ev_fieldAddr rfl rfl rfl) rfl rfl ?_) | (show opsA _ _ _ _ (⟨_, .alloc _, _, _, _, _⟩ :: _) _ _; (refine O_ef rfl (Ef_alloc WideF.wide rfl ?_); intro b)) | (show opsA _ _ _ _ (⟨_, .box _ _, _, _, _, _⟩ :: _) _ _; (refine O_ef rfl (Ef_boxa WideF.wide rfl rfl ?_); intro b)) | (show opsA _ _ _ _ (⟨_, .store _ _ _, _, _, _, _⟩ :: _) _ _; first | refine O_f1 (O_ef rfl (Ef_storew WideF.wide rfl rfl rfl rfl rfl ?_)) | refine O_f2 (O_ef rfl (Ef_store1 WideF.wide rfl rfl rfl rfl rfl ?_)))) | (show wpA _ _ _ (.cond _ _ _) _ _ _ _; refine A_iffalse rfl ?_))
    first | (refine End_e (RetC rfl rfl (i := 0) rfl rfl) ?_) | (refine End_e (RetC rfl rfl (i := 1) rfl rfl) ?_) | (refine End_e (RetC rfl rfl (i := 2) rfl rfl) ?_)
    refine ⟨⟨_, rfl, ⟨⟨pa', pn', pc', da, dn, dc, la, ln, lc, rfl, ?_, h2.mono hle1, h3.mono hle1⟩⟩⟩, rfl⟩
    exact hr
  | true =>
    refine Fn_of _ _ Try.func26 rfl Try.ntmps26 rfl fun c => ?_
    repeat' (first | (refine O_ef rfl (Ef_call (I := []) WideF.wide hst ⟨rfl, rfl, rfl, trivial⟩ rfl ?_); rintro v H1 I1 hle1 ⟨⟨pa', pn', pc', rfl, hr⟩, rfl⟩) | refine O_nil ?_ | refine A_seq ?_ | refine A_region ?_ | refine A_ret ?_ | (show opsA _ _ _ _ _ _ _; first | refine O_ev WideF.wide rfl (Ev_pure rfl) rfl rfl ?_ | (show opsA _ _ _ _ (⟨_, .load _ _, _, _, _, _⟩ :: _) _ _; first | refine O_ev WideF.wide rfl (Ev_loadB1 (i := 1) rfl rfl rfl) rfl rfl ?_ | refine O_ev WideF.wide rfl (Ev_loadB1 (i := 2) rfl rfl rfl) rfl rfl ?_ | refine O_ev WideF.wide rfl (Ev_loadB (i := 0) rfl rfl rfl) rfl rfl ?_) | (show opsA _ _ _ _ (⟨_, .fieldAddr _ _ _, _, _, _, _⟩ :: _) _ _; refine O_ev WideF.wide rfl (Ev_fieldAddr rfl rfl rfl) rfl rfl ?_) | (show opsA _ _ _ _ (⟨_, .alloc _, _, _, _, _⟩ :: _) _ _; (refine O_ef rfl (Ef_alloc WideF.wide rfl ?_); intro b)) | (show opsA _ _ _ _ (⟨_, .box _ _, _, _, _, _⟩ :: _) _ _; (refine O_ef rfl (Ef_boxa WideF.wide rfl rfl ?_); intro b)) | (show opsA _ _ _ _ (⟨_, .store _ _ _, _, _, _, _⟩ :: _) _ _; first | refine O_f1 (O_ef rfl (Ef_storew WideF.wide rfl rfl rfl rfl rfl ?_)) | refine O_f2 (O_ef rfl (Ef_store1 WideF.wide rfl rfl rfl rfl rfl ?_)))) | (show wpA _ _ _ (.cond _ _ _) _ _ _ _; refine A_iftrue rfl ?_))
    first | (refine End_e (RetC rfl rfl (i := 0) rfl rfl) ?_) | (refine End_e (RetC rfl rfl (i := 1) rfl rfl) ?_) | (refine End_e (RetC rfl rfl (i := 2) rfl rfl) ?_)
    refine ⟨⟨_, rfl, ⟨⟨pa', pn', pc', da, dn, dc, la, ln, lc, rfl, ?_, h2.mono hle1, h3.mono hle1⟩⟩⟩, rfl⟩
    exact hr
end Go.Proofs.Ythniohgeojenaaa
