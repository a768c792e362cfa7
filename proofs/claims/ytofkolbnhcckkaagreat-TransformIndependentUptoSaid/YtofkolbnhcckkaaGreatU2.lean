/-
  Pieces and splices as data; document.Equal of settings, sameSettings, equalPiece, splice.Equal.
-/
import Derived.Test.YtofkolbnhcckkaaGreatU1
namespace Go.Proofs.YtofkolbnhcckkaaGreat
open Go
set_option linter.unusedVariables false
set_option linter.unusedSimpArgs false
attribute [local irreducible] wpA opsA drJ drQ drE Ef Ev Shift Fn
abbrev nilV : Value := .slice none 0 0
abbrev zHead : List Value := [nilV, .int .i64 0, .int .i64 0, nilV, nilV]
def head0 : Head := ⟨[], 0, 0, [], []⟩
theorem zHeadH (H : Hp) : HeadH H zHead head0 := ⟨none, 0, 0, none, 0, 0, none, 0, 0, rfl, HRow.nil' H 2, HRow.nil' H 2, HRow.nil' H 4⟩
theorem EqHead_zero {H : Hp} : FnP Tryz.prog 44 [.agg zHead.toArray, .agg zHead.toArray] H (.bool true) := by
  have h := EqualHead_fn (zHeadH H) (zHeadH H) (by decide)
  rwa [decide_eq_true rfl] at h
theorem Equal_nil {H : Hp} : FnP Tryz.prog 39 [nilV, nilV] H (.bool true) := by
  have hf : FlowH H none 0 0 [] := FlowH.nil H
  have h := Equal_fn hf hf (by decide)
  rwa [decide_eq_true rfl] at h
attribute [local irreducible] unr
set_option maxRecDepth 100000 in
theorem EqRev_nil {H : Hp} : FnP Tryz.prog 92 [nilV, nilV] H (.bool true) := by
  refine Fn_of _ _ Tryz.func92 rfl Tryz.ntmps92 rfl fun c => ?_
  repeat' (first | (show wpA _ _ _ (.loop _) _ _ _ _; refine A_unroll 1 ?_) | (show unr _ _ _ _ _ _ _ _; refine U_succ ?_) | refine O_nil ?_ | refine A_seq ?_ | refine A_region ?_ | refine A_skip ?_ | refine A_ret ?_ | refine A_block ?_ | (show opsA _ _ _ _ _ _ _; first | refine O_ev WideF.wide rfl (Ev_pure rfl) rfl rfl ?_ | (show opsA _ _ _ _ (⟨_, .call _, _, _, _, _⟩ :: _) _ _; refine O_ev WideF.wide rfl (Ev_llen rfl) rfl rfl ?_)) | (show wpA _ _ _ (.exit _) _ _ _ _; refine A_exit rfl ?_) | (show wpA _ _ _ (.cond _ _ _) _ _ _ _; (refine A_if rfl (fun h => ?_) (fun h => ?_) <;> try (exfalso; omega))))
  all_goals first
    | (exfalso; omega)
    | ((refine End_p (Ret1 rfl rfl) ?_); rfl)
    | (exfalso; exact absurd rfl (by assumption))
structure Piece where
  items : List Item
  rows : List Row
  cells : List Cell
  head : Head
  sett : Sett
structure Splice where
  kind : Int
  id : Int
  at_ : Int
  sub : Int
  old : Piece
  new : Piece
noncomputable instance : DecidableEq Piece := fun a b => Classical.propDecidable (a = b)
noncomputable instance : DecidableEq Splice := fun a b => Classical.propDecidable (a = b)
structure PieceH (H : Hp) (cs : List Value) (p : Piece) : Prop where
  ex : ∃ (ia : Option Addr) (iN ic : Nat) (ra : Option Addr) (rn rc : Nat) (ca : Option Addr) (cn cc : Nat) (hcs scs : List Value), cs = .slice ia iN ic :: .slice ra rn rc :: .slice ca cn cc :: (hcs ++ scs) ∧
    FlowH H ia iN ic p.items ∧ RowsS H ra rn rc p.rows ∧ CellsS H ca cn cc p.cells ∧ HeadH H hcs p.head ∧ SettH H scs p.sett
theorem PieceH.mono {H H' : Hp} (hl : HLe H H') {cs : List Value} {p : Piece} (h : PieceH H cs p) : PieceH H' cs p := by
  obtain ⟨ia, iN, ic, ra, rn, rc, ca, cn, cc, hcs, scs, e, h1, h2, h3, h4, h5⟩ := h.ex
  exact ⟨ia, iN, ic, ra, rn, rc, ca, cn, cc, hcs, scs, e, h1.mono hl, h2.mono hl, h3.mono hl, h4.mono hl, h5.mono hl⟩
theorem PieceH.one {H : Hp} {cs : List Value} {p : Piece} (h : PieceH H cs p) : cs.length = 12 ∧ ∀ u ∈ cs, u.oneCell' = true := by
  obtain ⟨ia, iN, ic, ra, rn, rc, ca, cn, cc, hcs, scs, rfl, h1, h2, h3, h4, h5⟩ := h.ex
  obtain ⟨pa, pn, pc, da, dn, dc, la, ln, lc, rfl, _⟩ := h4.ex
  obtain ⟨sa, sn, sc, la', ln', lc', ca', cn', cc', va, vn, vc, rfl, _⟩ := h5.ex
  refine ⟨rfl, fun u hu => ?_⟩
  simp at hu
  rcases hu with rfl | rfl | rfl | rfl | rfl | rfl | rfl | rfl | rfl | rfl | rfl | rfl <;> rfl
def Piece.fine (p : Piece) : Prop := massL p.items + massR p.rows + massC p.cells + p.head.mass < 17179869184 ∧ p.sett.fine
structure SplH (H : Hp) (cs : List Value) (s : Splice) : Prop where
  ex : ∃ (ocs ncs : List Value), cs = .int .i64 s.kind :: .int .i64 s.id :: .int .i64 s.at_ :: .int .i64 s.sub :: (ocs ++ ncs) ∧ PieceH H ocs s.old ∧ PieceH H ncs s.new
theorem SplH.mono {H H' : Hp} (hl : HLe H H') {cs : List Value} {s : Splice} (h : SplH H cs s) : SplH H' cs s := by
  obtain ⟨o, n, e, h1, h2⟩ := h.ex
  exact ⟨o, n, e, h1.mono hl, h2.mono hl⟩
def Splice.fine (s : Splice) : Prop := s.old.fine ∧ s.new.fine
/-! ### comparisons -/
theorem HLe.go {H H1 H2 : Hp} (h : HLe H H1) (h' : HLe H1 H2) : HLe H H2 := h.trans h'
abbrev zDocS (scs : List Value) : List Value := nilV :: (zHead ++ nilV :: scs)
set_option maxRecDepth 100000 in
set_option maxHeartbeats 4000000 in
theorem EqDoc_fn {H : Hp} {cs cs' : List Value} {x x' : Sett} (hx : SettH H cs x) (hx' : SettH H cs' x') (hm : x.fine) :
    Fn Tryz.prog 71 [.agg (zDocS cs).toArray, .agg (zDocS cs').toArray] H [] fun v _ I => v = .bool (decide (x = x')) ∧ I = [] := by
  obtain ⟨sa, sn, sc, la, ln, lc, ca, cn, cc, va, vn, vc, rfl, p1, p2, p3, p4⟩ := hx.ex
  obtain ⟨sa', sn', sc', la', ln', lc', ca', cn', cc', va', vn', vc', rfl, p1', p2', p3', p4'⟩ := hx'.ex
  obtain ⟨m1, m2, m3, m4, m5, m6⟩ := hm
  have q1 := p1.len
  have q2 := p2.len
  have q3 := p3.len
  have q4 := p4.len
  rw [List.length_map] at q3 q4
  have h1 := fun Hx => Equal_nil (H := Hx)
  have h2 := fun Hx => EqHead_zero (H := Hx)
  have h3 := fun Hx => EqRev_nil (H := Hx)
  have h4 := fun Hx (h : HLe H Hx) => sheetEqual_fn (p1.monoR (fun _ _ z => z.mono h) h) (p1'.monoR (fun _ _ z => z.mono h) h) (by omega) m2
  have h5 := fun Hx (h : HLe H Hx) => sEqualFuncLst_fn (p2.monoR (fun _ _ z => z.mono h) h) (p2'.monoR (fun _ _ z => z.mono h) h) (by omega) fun hy h1 h2 => docList_fn h1 h2 (m4 _ (List.mem_of_getElem? hy))
  have h6 := fun Hx (h : HLe H Hx) => sEqualCmt_fn (p3.mono h) (p3'.mono h) (by omega)
  have h7 := fun Hx (h : HLe H Hx) => sEqualVr_fn (p4.mono h) (p4'.mono h) (by omega)
  have ho : ∀ (a b c d : Value), a.oneCell' = true → b.oneCell' = true → c.oneCell' = true → d.oneCell' = true → ∀ u ∈ zDocS [a, b, c, d], u.oneCell' = true := by
    intro a b c d h1 h2 h3 h4 u hu
    simp [zDocS, zHead] at hu
    rcases hu with rfl | rfl | rfl | rfl | rfl | rfl | rfl | rfl
    all_goals first | rfl | assumption
  have ho1 := ho (.slice sa sn sc) (.slice la ln lc) (.slice ca cn cc) (.slice va vn vc) rfl rfl rfl rfl
  have ho2 := ho (.slice sa' sn' sc') (.slice la' ln' lc') (.slice ca' cn' cc') (.slice va' vn' vc') rfl rfl rfl rfl
  clear ho
  obtain ⟨s, l, c, v⟩ := x
  obtain ⟨s', l', c', v'⟩ := x'
  dsimp only at h4 h5 h6 h7 ⊢
  refine Fn_of _ _ Tryz.func71 rfl Tryz.ntmps71 rfl fun c => ?_
  repeat' (first | (show opsA _ _ _ _ (⟨some 2, .box _ _, _, _, _, _⟩ :: _) _ _; refine O_ef rfl (Ef_boxa WideF.wide (cs := zDocS _) rfl rfl ?_); intro b2; refine O_freezeBox ho1 ?_; intro H2 hle2 hb2) | (show opsA _ _ _ _ (⟨some 3, .box _ _, _, _, _, _⟩ :: _) _ _; refine O_ef rfl (Ef_boxa WideF.wide (cs := zDocS _) rfl rfl ?_); intro b3; refine O_freezeBox ho2 ?_; intro H3 hle3 hb3; have hb2 := hb2.mono hle3; have g := hle2.trans hle3) | (refine A_drawM WideF.wide (.q 0 (.q 1 (.q 2 (.q 3 (.f 4 (.e 5 (.e 6 (.e 7 (.done [])))) 5 (.e 4 (.e 6 (.e 7 (.done []))))))))) [] (by decide +kernel) ?_) | (show drQ _ _ _ ⟨_, .load _ _, _, _, _, _⟩ _ _; first | refine D_ev rfl (Ev_loadH rfl (hb2.sub 7 4) rfl) rfl rfl ?_ | refine D_ev rfl (Ev_loadH rfl (hb3.sub 7 4) rfl) rfl rfl ?_) | (show opsA _ _ _ _ (⟨_, .load _ _, _, _, _, _⟩ :: _) _ _; first | refine O_ev WideF.wide rfl (Ev_loadH1 rfl (hb2 0 _ rfl)) rfl rfl ?_ | refine O_ev WideF.wide rfl (Ev_loadH1 rfl (hb3 0 _ rfl)) rfl rfl ?_ | refine O_ev WideF.wide rfl (Ev_loadH rfl (hb2.sub 1 5) rfl) rfl rfl ?_ | refine O_ev WideF.wide rfl (Ev_loadH rfl (hb3.sub 1 5) rfl) rfl rfl ?_ | refine O_ev WideF.wide rfl (Ev_loadH1 rfl (hb2 6 _ rfl)) rfl rfl ?_ | refine O_ev WideF.wide rfl (Ev_loadH1 rfl (hb3 6 _ rfl)) rfl rfl ?_) | (refine O_ef rfl (Ef_callp WideF.wide (h1 _) ⟨rfl, rfl, trivial⟩ rfl ?_)) | (refine O_ef rfl (Ef_callp WideF.wide (h2 _) ⟨rfl, rfl, trivial⟩ rfl ?_)) | (refine O_ef rfl (Ef_callp WideF.wide (h3 _) ⟨rfl, rfl, trivial⟩ rfl ?_)) | (refine O_ef rfl (Ef_callp WideF.wide (h4 _ g) ⟨rfl, rfl, trivial⟩ rfl ?_)) | (refine O_ef rfl (Ef_callp WideF.wide (h5 _ g) ⟨rfl, rfl, rfl, trivial⟩ rfl ?_)) | (refine O_ef rfl (Ef_callp WideF.wide (h6 _ g) ⟨rfl, rfl, trivial⟩ rfl ?_)) | (refine O_ef rfl (Ef_callp WideF.wide (h7 _ g) ⟨rfl, rfl, trivial⟩ rfl ?_)) | refine O_nil ?_ | refine A_seq ?_ | refine A_region ?_ | refine A_ret ?_ | (show drJ _ _ _ _ _ _ _ (.q _ _) _; refine D_q rfl ?_) | (show drJ _ _ _ _ _ _ _ (.e _ _) _; refine D_e rfl ?_) | (show drJ _ _ _ _ _ _ _ (.f _ _ _ _) _; refine D_f rfl rfl ?_ ?_) | (show drJ _ _ _ _ _ _ _ (.done _) _; refine D_done ?_; simp only [List.cons_append, List.nil_append]) | (show drQ _ _ _ _ _ _; (show drQ _ _ _ ⟨_, .fieldAddr _ _ _, _, _, _, _⟩ _ _; refine D_ev rfl (Ev_fieldAddr rfl rfl rfl) rfl rfl ?_)) | (show drE _ _ _ _ _ _ _; first | (show drE _ _ _ _ ⟨_, .alloc _, _, _, _, _⟩ _ _; (refine E_ef rfl (Ef_alloc WideF.wide rfl ?_); intro b; refine ⟨Grow.same rfl rfl, ?_⟩)) | (show drE _ _ _ _ ⟨_, .store _ _ _, _, _, _, _⟩ _ _; first | (refine E_ef rfl (Ef_storew WideF.wide rfl rfl rfl rfl rfl ?_); refine ⟨Grow.same rfl rfl, ?_⟩) | (refine E_ef rfl (Ef_f1 (Ef_storew WideF.wide rfl rfl rfl rfl rfl ?_)); refine ⟨Grow.same rfl rfl, ?_⟩))) | (show opsA _ _ _ _ _ _ _; first | (refine O_split rfl rfl (fun h => ?_) (fun h => ?_) <;> try (exfalso; omega)) | refine O_ev WideF.wide rfl (Ev_pure rfl) rfl rfl ?_ | (show opsA _ _ _ _ (⟨_, .load _ _, _, _, _, _⟩ :: _) _ _; first | refine O_ev WideF.wide rfl (Ev_loadB1 (i := 0) rfl rfl rfl) rfl rfl ?_ | refine O_ev WideF.wide rfl (Ev_loadB1 (i := 1) rfl rfl rfl) rfl rfl ?_) | (show opsA _ _ _ _ (⟨_, .fieldAddr _ _ _, _, _, _, _⟩ :: _) _ _; refine O_ev WideF.wide rfl (Ev_fieldAddr rfl rfl rfl) rfl rfl ?_) | refine O_skip WideF.wide rfl rfl rfl ?_))
  all_goals first
    | (exfalso; omega)
    | (refine End_e (Ret1 rfl rfl) ⟨?_, rfl⟩; refine congrArg Value.bool ?_; rw [Bool.eq_iff_iff]; simp [Sett.mk.injEq, *])
set_option maxRecDepth 100000 in
theorem Sett_fn {H : Hp} {cs cs' : List Value} {x x' : Sett} (hx : SettH H cs x) (hx' : SettH H cs' x') (hm : x.fine) :
    Fn Tryz.prog 45 [.agg cs.toArray, .agg cs'.toArray] H [] fun v _ I => v = .bool (decide (x = x')) ∧ I = [] := by
  have h1 := EqDoc_fn hx hx' hm
  obtain ⟨sa, sn, sc, la, ln, lc, ca, cn, cc, va, vn, vc, rfl, p1, p2, p3, p4⟩ := hx.ex
  obtain ⟨sa', sn', sc', la', ln', lc', ca', cn', cc', va', vn', vc', rfl, p1', p2', p3', p4'⟩ := hx'.ex
  refine Fn_of _ _ Tryz.func45 rfl Tryz.ntmps45 rfl fun c => ?_
  repeat' (first | (refine O_ev WideF.wide rfl (Ev_build (vs := [(3, .agg [.slice sa sn sc, .slice la ln lc, .slice ca cn cc, .slice va vn vc].toArray)]) ⟨rfl, rfl, trivial⟩ rfl) rfl rfl ?_) | (refine O_ev WideF.wide rfl (Ev_build (vs := [(3, .agg [.slice sa' sn' sc', .slice la' ln' lc', .slice ca' cn' cc', .slice va' vn' vc'].toArray)]) ⟨rfl, rfl, trivial⟩ rfl) rfl rfl ?_) | (refine O_ef rfl (Ef_call (I := []) WideF.wide (h1) ⟨rfl, rfl, trivial⟩ rfl ?_); rintro v H1 I1 hle1 ⟨rfl, rfl⟩) | refine O_nil ?_ | refine A_seq ?_ | refine A_region ?_ | refine A_ret ?_ | (show opsA _ _ _ _ _ _ _; first | refine O_ev WideF.wide rfl (Ev_pure rfl) rfl rfl ?_ | (show opsA _ _ _ _ (⟨_, .load _ _, _, _, _, _⟩ :: _) _ _; first | refine O_ev WideF.wide rfl (Ev_loadB (i := 0) rfl rfl rfl) rfl rfl ?_ | refine O_ev WideF.wide rfl (Ev_loadB (i := 1) rfl rfl rfl) rfl rfl ?_) | (show opsA _ _ _ _ (⟨_, .box _ _, _, _, _, _⟩ :: _) _ _; (refine O_ef rfl (Ef_boxa WideF.wide rfl rfl ?_); intro b))))
  exact End_e (Ret1 rfl rfl) ⟨rfl, rfl⟩
theorem EqRows_fn {H : Hp} {a : Option Addr} {n cq : Nat} {a' : Option Addr} {n' cq' : Nat} {l l' : List Row} (hx : RowsS H a n cq l) (hx' : RowsS H a' n' cq' l') (hm : massR l < 34359738368) :
    FnP Tryz.prog 40 [.slice a n cq, .slice a' n' cq', .func (.func 41) #[] #[]] H (.bool (decide (l = l'))) := by
  have hcl := massR_len l
  have hfn := hx.len
  exact sEqualFuncRow_fn hx hx' (by omega) fun hy h1 h2 => EqualRow_fn (Equal_ih (massR l + 1) (by omega)) h1 h2 (by have := massR_mem hy; omega) (by omega)
theorem EqCells_fn {H : Hp} {a : Option Addr} {n cq : Nat} {a' : Option Addr} {n' cq' : Nat} {l l' : List Cell} (hx : CellsS H a n cq l) (hx' : CellsS H a' n' cq' l') (hm : massC l < 34359738368) :
    FnP Tryz.prog 42 [.slice a n cq, .slice a' n' cq', .func (.func 43) #[] #[]] H (.bool (decide (l = l'))) := by
  have hcl := massC_len l
  have hfn := hx.len
  exact sEqualFuncCell_fn hx hx' (by omega) fun hy h1 h2 => EqualCell_fn (Equal_ih (massC l + 1) (by omega)) h1 h2 (by have := massC_mem hy; omega) (by omega)
set_option maxRecDepth 100000 in
set_option maxHeartbeats 4000000 in
theorem equalPiece_fn {H : Hp} {cs cs' : List Value} {p p' : Piece} (hx : PieceH H cs p) (hx' : PieceH H cs' p') (hm : p.fine) :
    Fn Tryz.prog 18 [.agg cs.toArray, .agg cs'.toArray] H [] fun v _ I => v = .bool (decide (p = p')) ∧ I = [] := by
  obtain ⟨ia, iN, ic, ra, rn, rc, ca, cn, cc, hcs, scs, rfl, p1, p2, p3, p4, p5⟩ := hx.ex
  obtain ⟨ia', iN', ic', ra', rn', rc', ca', cn', cc', hcs', scs', rfl, p1', p2', p3', p4', p5'⟩ := hx'.ex
  obtain ⟨m1, m2⟩ := hm
  have h1 := Equal_fn p1 p1' (by omega)
  have h2 := EqRows_fn p2 p2' (by omega)
  have h3 := EqCells_fn p3 p3' (by omega)
  have h4 := EqualHead_fn p4 p4' (by omega)
  have h5 := Sett_fn p5 p5' m2
  obtain ⟨qa, qn, qc, da, dn, dc, la, ln, lc, rfl, _⟩ := p4.ex
  obtain ⟨qa', qn', qc', da', dn', dc', la', ln', lc', rfl, _⟩ := p4'.ex
  obtain ⟨sa, sn, sc, ua, un, uc, ka, kn, kc, va, vn, vc, rfl, _⟩ := p5.ex
  obtain ⟨sa', sn', sc', ua', un', uc', ka', kn', kc', va', vn', vc', rfl, _⟩ := p5'.ex
  obtain ⟨x1, x2, x3, x4, x5⟩ := p
  obtain ⟨y1, y2, y3, y4, y5⟩ := p'
  dsimp only at h1 h2 h3 h4 h5 ⊢
  refine Fn_of _ _ Tryz.func18 rfl Tryz.ntmps18 rfl fun c => ?_
  repeat' (first | (refine O_ef rfl (Ef_callp WideF.wide (h1) ⟨rfl, rfl, trivial⟩ rfl ?_)) | (refine O_ef rfl (Ef_callp WideF.wide (h2) ⟨rfl, rfl, rfl, trivial⟩ rfl ?_)) | (refine O_ef rfl (Ef_callp WideF.wide (h3) ⟨rfl, rfl, rfl, trivial⟩ rfl ?_)) | (refine O_ef rfl (Ef_callp WideF.wide (h4) ⟨rfl, rfl, trivial⟩ rfl ?_)) | (refine O_ef rfl (Ef_call (I := []) WideF.wide (h5) ⟨rfl, rfl, trivial⟩ rfl ?_); rintro v H1 I1 hle1 ⟨rfl, rfl⟩) | refine O_nil ?_ | refine A_seq ?_ | refine A_region ?_ | refine A_ret ?_ | (show opsA _ _ _ _ _ _ _; first | (refine O_split rfl rfl (fun h => ?_) (fun h => ?_) <;> try (exfalso; omega)) | refine O_ev WideF.wide rfl (Ev_pure rfl) rfl rfl ?_ | (show opsA _ _ _ _ (⟨_, .load _ _, _, _, _, _⟩ :: _) _ _; first | refine O_ev WideF.wide rfl (Ev_loadB1 (i := 0) rfl rfl rfl) rfl rfl ?_ | refine O_ev WideF.wide rfl (Ev_loadB1 (i := 1) rfl rfl rfl) rfl rfl ?_ | refine O_ev WideF.wide rfl (Ev_loadBs (i := 0) rfl rfl rfl rfl) rfl rfl ?_ | refine O_ev WideF.wide rfl (Ev_loadBs (i := 1) rfl rfl rfl rfl) rfl rfl ?_) | (show opsA _ _ _ _ (⟨_, .fieldAddr _ _ _, _, _, _, _⟩ :: _) _ _; refine O_ev WideF.wide rfl (Ev_fieldAddr rfl rfl rfl) rfl rfl ?_) | (show opsA _ _ _ _ (⟨_, .box _ _, _, _, _, _⟩ :: _) _ _; (refine O_ef rfl (Ef_boxa WideF.wide rfl rfl ?_); intro b)) | refine O_skip WideF.wide rfl rfl rfl ?_))
  all_goals first
    | (exfalso; omega)
    | (refine End_e (Ret1 rfl rfl) ⟨?_, rfl⟩; refine congrArg Value.bool ?_; rw [Bool.eq_iff_iff]; simp [Piece.mk.injEq, *])
theorem list12 {l : List Value} (h : l.length = 12) : ∃ a b c d e f g i j k m n, l = [a, b, c, d, e, f, g, i, j, k, m, n] := by
  match l, h with
  | [a, b, c, d, e, f, g, i, j, k, m, n], _ => exact ⟨a, b, c, d, e, f, g, i, j, k, m, n, rfl⟩
set_option maxRecDepth 100000 in
set_option maxHeartbeats 4000000 in
theorem spEqual_fn {H : Hp} {cs cs' : List Value} {s s' : Splice} (hx : SplH H cs s) (hx' : SplH H cs' s') (hm : s.fine) :
    Fn Tryz.prog 9 [.agg cs.toArray, .agg cs'.toArray] H [] fun v _ I => v = .bool (decide (s = s')) ∧ I = [] := by
  obtain ⟨ocs, ncs, rfl, p1, p2⟩ := hx.ex
  obtain ⟨ocs', ncs', rfl, p1', p2'⟩ := hx'.ex
  have h1 := fun Hx (h : HLe H Hx) => equalPiece_fn (p1.mono h) (p1'.mono h) hm.1
  have h2 := fun Hx (h : HLe H Hx) => equalPiece_fn (p2.mono h) (p2'.mono h) hm.2
  obtain ⟨o1, o2, o3, o4, o5, o6, o7, o8, o9, o10, o11, o12, rfl⟩ := list12 p1.one.1
  obtain ⟨u1, u2, u3, u4, u5, u6, u7, u8, u9, u10, u11, u12, rfl⟩ := list12 p2.one.1
  obtain ⟨v1, v2, v3, v4, v5, v6, v7, v8, v9, v10, v11, v12, rfl⟩ := list12 p1'.one.1
  obtain ⟨w1, w2, w3, w4, w5, w6, w7, w8, w9, w10, w11, w12, rfl⟩ := list12 p2'.one.1
  have g := HLe.refl H
  obtain ⟨k, i, a, b, x, y⟩ := s
  obtain ⟨k', i', a', b', x', y'⟩ := s'
  dsimp only at h1 h2 ⊢
  refine Fn_of _ _ Tryz.func9 rfl Tryz.ntmps9 rfl fun c => ?_
  repeat' (first | (refine O_ef rfl (Ef_call (I := []) WideF.wide (h1 _ g) ⟨rfl, rfl, trivial⟩ rfl ?_); rintro v H1 I1 hle1 ⟨rfl, rfl⟩); have g := g.go hle1 | (refine O_ef rfl (Ef_call (I := []) WideF.wide (h2 _ g) ⟨rfl, rfl, trivial⟩ rfl ?_); rintro v H2 I2 hle2 ⟨rfl, rfl⟩) | refine O_nil ?_ | refine A_seq ?_ | refine A_region ?_ | refine A_ret ?_ | (show opsA _ _ _ _ _ _ _; first | (refine O_split rfl rfl (fun h => ?_) (fun h => ?_) <;> try (exfalso; omega)) | refine O_ev WideF.wide rfl (Ev_pure rfl) rfl rfl ?_ | (show opsA _ _ _ _ (⟨_, .load _ _, _, _, _, _⟩ :: _) _ _; first | refine O_ev WideF.wide rfl (Ev_loadB1 (i := 0) rfl rfl rfl) rfl rfl ?_ | refine O_ev WideF.wide rfl (Ev_loadB1 (i := 1) rfl rfl rfl) rfl rfl ?_ | refine O_ev WideF.wide rfl (Ev_loadBs (i := 0) rfl rfl rfl rfl) rfl rfl ?_ | refine O_ev WideF.wide rfl (Ev_loadBs (i := 1) rfl rfl rfl rfl) rfl rfl ?_) | (show opsA _ _ _ _ (⟨_, .fieldAddr _ _ _, _, _, _, _⟩ :: _) _ _; refine O_ev WideF.wide rfl (Ev_fieldAddr rfl rfl rfl) rfl rfl ?_) | (show opsA _ _ _ _ (⟨_, .box _ _, _, _, _, _⟩ :: _) _ _; (refine O_ef rfl (Ef_boxa WideF.wide rfl rfl ?_); intro b)) | refine O_skip WideF.wide rfl rfl rfl ?_))
  all_goals first
    | (exfalso; omega)
    | (refine End_e (Ret1 rfl rfl) ⟨?_, rfl⟩; refine congrArg Value.bool ?_; rw [Bool.eq_iff_iff]; simp [Splice.mk.injEq, *])
end Go.Proofs.YtofkolbnhcckkaaGreat
