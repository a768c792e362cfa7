/-
  The law's smallPiece and small: some result. Printed by genU17.py.
-/
import Derived.Test.YtofkolbnhcckkaaGreatU16
namespace Go.Proofs.YtofkolbnhcckkaaGreat
open Go
set_option linter.unusedVariables false
set_option linter.unusedSimpArgs false
theorem Ef_buildF {F : Fence} {P : Program} {c : Ctx} {K : SP} {n : Nat} {e : Env} {H : Hp} {M L : Own} {D : List Deferred} {d : Nat} {ty : TypeId} {pos : String} {after : Array Edge} {g : Option (Nat × Bool)} {t : TypeId} {k : Nat} (hF : WideF F) {el bytes len : Nat} {ag : Bool} {zc : List Value} {xs : List Operand} {vs : List Value} {css : List (List Value)} {ps : Array (Nat × Operand)} [ht : UndC P t (.slice el)] [hT : TyC P el ag k] [hI : InfoC P el bytes] [hz : ZeroL P el zc]
    (hps : ps.toList = (xs.zipIdx 0).map fun q => (q.2, q.1)) (hx : EvalAll e xs vs) (hv : vs.map (fun v => v.cells.toList) = css) (hlen : vs.length = len) (hpos : Nat.blt 0 (len * k) = true) (hsmall : Nat.ble (len * k) 16777216 = true) (hck : css.all (fun cs => Nat.beq cs.length k) = true) (hn : Nat.blt d n = true)
    (h1 : ∀ cs ∈ css, ∀ u ∈ cs, u.oneCell' = true)
    (kk : ∀ b H', HLe H H' → HRow H' (some ⟨b, 0, none⟩) len len k css → K ⟨n, (d, .slice (some ⟨b, 0, none⟩) len len) :: e, H', M, L, D⟩) :
    Ef F P c ⟨some d, .buildSlice t len ps, ty, pos, after, g⟩ ⟨n, e, H, M, L, D⟩ K := by
  refine Ef_mapK (K' := fun s' => ∃ b, s' = ⟨n, (d, .slice (some ⟨b, 0, none⟩) len len) :: e, H, .row (.slice (some ⟨b, 0, none⟩) len len) k css :: M, L, D⟩) (Ef_buildn hF hps hx hv hlen hpos hsmall hck hn fun b => ⟨b, rfl⟩) ?_
  rintro s a w hs ⟨b, rfl⟩
  obtain ⟨H', hle, hr, hh⟩ := Holds.freeze (R := M ++ L) hs.holds h1
  exact ⟨⟨n, (d, .slice (some ⟨b, 0, none⟩) len len) :: e, H', M, L, D⟩, ⟨hs.defers, hs.size, hs.env, hh⟩, kk b H' hle hr⟩
abbrev cellsRow (a : Option Addr) (n c : Nat) : List Value := [nilV, .int .i64 0, .int .i64 0, nilV, nilV, .slice a n c]
theorem cellsRowH {H : Hp} {a : Option Addr} {n c : Nat} {l : List Cell} (h : CellsS H a n c l) : RowH H (cellsRow a n c) (head0, l) :=
  RowH.of (x := (head0, l)) (HRow.nil' H 2) (HRow.nil' H 2) (HRow.nil' H 4) h
abbrev tabItem (r : List Row) : Item := .mk 7 0 0 [] head0 [] r
abbrev tabCells (a : Option Addr) (n c : Nat) : List Value := [.int .i64 7, .int .i64 0, .int .i64 0, sv [], nilV, .int .i64 0, .int .i64 0, nilV, nilV, nilV, .slice a n c]
theorem tabItemH {H : Hp} {a : Option Addr} {n c : Nat} {r : List Row} (h : RowsS H a n c r) : ItemH H (tabCells a n c) (tabItem r) :=
  ItemH.of (x := tabItem r) (HRow.nil' H 2) (HRow.nil' H 2) (HRow.nil' H 4) (FlowH.nil H) h
theorem tabMass (r : List Row) (l : List Item) : massL (tabItem r :: l) = 1 + massR r + massL l := by simp [massL, Item.mass, Head.mass, head0]
attribute [local irreducible] wpA opsA drJ drQ drE Ef Ev Shift Fn
set_option maxHeartbeats 8000000 in
set_option maxRecDepth 100000 in
theorem smallPiece_fn {H : Hp} {cs : List Value} {p : Piece} (hx : PieceH H cs p) (hm : p.fine) :
    Fn Tryz.prog 12 [.agg cs.toArray] H [] fun v _ I => (∃ r : Bool, v = .bool r) ∧ I = [] := by
  have hone := hx.one.2
  obtain ⟨ia, iN, ic, ra, rn, rc, ca, cn, cc, hcs, scs, rfl, p1, p2, p3, p4, p5⟩ := hx.ex
  obtain ⟨pa, pn, pc, da, dn, dc, la, ln, lc, rfl, p6, p7, p8⟩ := p4.ex
  obtain ⟨sa, sn, sc, ka, kn, kc, oa, on, oc, va, vn, vc, rfl, p9, p10, p11, p12⟩ := p5.ex
  obtain ⟨m1, m2, m3, m4, m5, m6, m7⟩ := hm
  have l1 := p1.len
  have l2 := p2.len
  have l3 := p3.len
  have n1 := massL_len p.items
  have n2 := massR_len p.rows
  have n3 := massC_len p.cells
  have l9 := p9.len
  have l10 := p10.len
  have l11 := p11.len
  have l12 := p12.len
  rw [List.length_map] at l11 l12
  obtain ⟨icss, i1, i2⟩ := p1.ex
  obtain ⟨rcss, r1, r2⟩ := p2.ex
  have li : icss.length = iN := by rw [← i1.len]
  have lr : rcss.length = rn := by rw [← r1.len]
  have ro : ∀ cs ∈ ([] ++ rcss) ++ [cellsRow ca cn cc], ∀ u ∈ cs, u.oneCell' = true := by
    intro cs hcs
    simp only [List.nil_append] at hcs
    rcases List.mem_append.1 hcs with hcs | hcs
    · exact r2.ones (fun _ _ h => h.one) cs hcs
    · rw [List.mem_singleton.1 hcs]; exact (cellsRowH p3).one
  refine Fn_of _ _ Tryz.func12 rfl Tryz.ntmps12 rfl fun c => ?_
  refine A_seq ?_
  repeat' (first | (refine O_ef rfl (Ef_boxa WideF.wide (cs := [.slice ia iN ic, .slice ra rn rc, .slice ca cn cc, .slice pa pn pc, .int .i64 p.head.ins, .int .i64 p.head.move, .slice da dn dc, .slice la ln lc, .slice sa sn sc, .slice ka kn kc, .slice oa on oc, .slice va vn vc]) rfl rfl ?_); intro b1; refine O_freezeBox hone ?_; intro H1 hle1 hb1; have g := hle1) | refine O_nil ?_ | refine A_seq ?_ | refine A_region ?_ | (show opsA _ _ _ _ _ _ _; refine O_ev WideF.wide rfl (Ev_pure rfl) rfl rfl ?_))
  replace r1 := r1.mono hle1
  refine A_cutu (fun st => ∃ (H5 : Hp) (b3 : Nat) (ta : Option Addr) (tc : Nat), HLe H H5 ∧ HCells H5 b1 0 [.slice ia iN ic, .slice ra rn rc, .slice ca cn cc, .slice pa pn pc, .int .i64 p.head.ins, .int .i64 p.head.move, .slice da dn dc, .slice la ln lc, .slice sa sn sc, .slice ka kn kc, .slice oa on oc, .slice va vn vc] ∧ HRow H5 ta (([] ++ rcss) ++ [cellsRow ca cn cc]).length tc 6 (([] ++ rcss) ++ [cellsRow ca cn cc]) ∧ st = ⟨74, [(1, .pointer (some ⟨b1, 0, none⟩)), (3, .pointer (some ⟨b3, 0, none⟩))], H5, [.box b3 (tabCells ta (([] ++ rcss) ++ [cellsRow ca cn cc]).length tc)], [], []⟩) ?_ ?_
  · repeat' (first | (refine A_drawM WideF.wide (.q 1 (.q 2 (.q 4 (.q 5 (.q 6 (.g 0 (.g 3 (.f 7 (.f 8 (.q 9 (.e 10 (.e 11 (.done [])))) 10 (.e 8 (.q 9 (.e 11 (.done []))))) 10 (.e 7 (.e 8 (.q 9 (.e 11 (.done [])))))) 7 (.f 3 (.f 8 (.q 9 (.e 10 (.e 11 (.done [])))) 10 (.e 8 (.q 9 (.e 11 (.done []))))) 10 (.e 3 (.e 8 (.q 9 (.e 11 (.done [])))))) 10 (.f 3 (.e 7 (.e 8 (.q 9 (.e 11 (.done []))))) 7 (.e 3 (.e 8 (.q 9 (.e 11 (.done []))))))) 7 (.f 0 (.f 3 (.f 8 (.q 9 (.e 10 (.e 11 (.done [])))) 10 (.e 8 (.q 9 (.e 11 (.done []))))) 10 (.e 3 (.e 8 (.q 9 (.e 11 (.done [])))))) 10 (.e 0 (.e 3 (.e 8 (.q 9 (.e 11 (.done []))))))) 10 (.f 0 (.f 3 (.e 7 (.e 8 (.q 9 (.e 11 (.done []))))) 7 (.e 3 (.e 8 (.q 9 (.e 11 (.done [])))))) 7 (.e 0 (.e 3 (.e 8 (.q 9 (.e 11 (.done []))))))))))))) [] (by decide +kernel) ?_) | (show drQ _ _ _ ⟨_, .load _ _, _, _, _, _⟩ _ _; first | refine D_ev rfl (Ev_loadH1 rfl (hb1 1 _ rfl)) rfl rfl ?_ | refine D_ev rfl (Ev_loadH1 rfl (hb1 2 _ rfl)) rfl rfl ?_) | (refine E_ef rfl (Ef_build0 WideF.wide rfl ?_); intro b5; refine ⟨Grow.same rfl rfl, ?_⟩) | (refine E_ef rfl (Ef_buildF WideF.wide (k := 6) (xs := [_]) (vs := [.agg (cellsRow ca cn cc).toArray]) rfl ⟨rfl, trivial⟩ rfl rfl rfl rfl rfl rfl (ones_of rfl) ?_); intro b12 H2 hle2 hr12; refine ⟨⟨hle2, rfl⟩, ?_⟩; have hb1 := hb1.mono hle2; have r1 := r1.mono hle2; have g := g.trans hle2) | (refine E_ef rfl (Ef_appendH WideF.wide rfl rfl r1 rfl rfl (by first | omega | (simp; omega)) (by first | omega | (simp; omega)) rfl ?_); intro a8 c8; refine ⟨Grow.same rfl rfl, ?_⟩) | (refine E_ef rfl (Ef_appendH WideF.wide rfl rfl hr12 rfl rfl (by first | omega | (simp; omega)) (by first | omega | (simp; omega)) rfl ?_); intro a13 c13; refine ⟨Grow.same rfl rfl, ?_⟩) | (refine E_ef rfl (Ef_f1 (Ef_appendH WideF.wide rfl rfl r1 rfl rfl (by first | omega | (simp; omega)) (by first | omega | (simp; omega)) rfl ?_)); intro a8 c8; refine ⟨Grow.same rfl rfl, ?_⟩) | (refine E_ef rfl (Ef_f1 (Ef_appendH WideF.wide rfl rfl hr12 rfl rfl (by first | omega | (simp; omega)) (by first | omega | (simp; omega)) rfl ?_)); intro a13 c13; refine ⟨Grow.same rfl rfl, ?_⟩) | refine O_nil ?_ | (show drJ _ _ _ _ _ _ _ (.q _ _) _; refine D_q rfl ?_) | (show drJ _ _ _ _ _ _ _ (.e _ _) _; refine D_e rfl ?_) | (show drJ _ _ _ _ _ _ _ (.f _ _ _ _) _; refine D_f rfl rfl ?_ ?_) | (show drJ _ _ _ _ _ _ _ (.g _ _ _ _ _ _) _; refine D_g rfl rfl rfl ?_ ?_ ?_) | (show drJ _ _ _ _ _ _ _ (.done _) _; refine D_done ?_; simp only [List.cons_append, List.nil_append]) | (show drQ _ _ _ _ _ _; first | (show drQ _ _ _ ⟨_, .fieldAddr _ _ _, _, _, _, _⟩ _ _; refine D_ev rfl (Ev_fieldAddr rfl rfl rfl) rfl rfl ?_) | (show drQ _ _ _ ⟨_, .build _ _, _, _, _, _⟩ _ _; first | refine D_ev rfl (Ev_build (vs := [(_, _)]) ⟨rfl, rfl, trivial⟩ rfl) rfl rfl ?_ | refine D_ev rfl (Ev_build (vs := [(_, _), (_, _)]) ⟨rfl, rfl, rfl, rfl, trivial⟩ rfl) rfl rfl ?_)) | (show drE _ _ _ _ _ _ _; first | (show drE _ _ _ _ ⟨_, .alloc _, _, _, _, _⟩ _ _; (refine E_ef rfl (Ef_alloc WideF.wide rfl ?_); intro b; refine ⟨Grow.same rfl rfl, ?_⟩)) | (show drE _ _ _ _ ⟨_, .store _ _ _, _, _, _, _⟩ _ _; first | (refine E_ef rfl (Ef_storew WideF.wide rfl rfl rfl rfl rfl ?_); refine ⟨Grow.same rfl rfl, ?_⟩) | (refine E_ef rfl (Ef_f1 (Ef_storew WideF.wide rfl rfl rfl rfl rfl ?_)); refine ⟨Grow.same rfl rfl, ?_⟩))))
    all_goals first
      | (refine Shift.lek ⟨_, [(1, _), (3, _)], _, [.row (.slice a13 _ c13) 6 _, .box b _], [], []⟩ ⟨rfl, rfl, rfl, ⟨rfl, rfl, trivial⟩, Own.subi [0, 1] (by decide) rfl rfl⟩ ?_; refine Shift_freeze ro ?_; intro H6 hle6 hr6; exact Shift.to ⟨_, b, _, _, g.trans hle6, hb1.mono hle6, hr6, rfl⟩ ⟨rfl, rfl, rfl, ⟨rfl, rfl, trivial⟩, Own.subi [0] (by decide) rfl rfl⟩)
      | (refine Shift.lek ⟨_, [(1, _), (3, _)], _, [.row (.slice a13 _ c13) 6 _, .box b _], [], []⟩ ⟨rfl, rfl, rfl, ⟨rfl, rfl, trivial⟩, Own.subi [1, 0] (by decide) rfl rfl⟩ ?_; refine Shift_freeze ro ?_; intro H6 hle6 hr6; exact Shift.to ⟨_, b, _, _, g.trans hle6, hb1.mono hle6, hr6, rfl⟩ ⟨rfl, rfl, rfl, ⟨rfl, rfl, trivial⟩, Own.subi [0] (by decide) rfl rfl⟩)
      | trace_state
  clear hb1 g
  rintro st ⟨H5, b3, ta, tc, g, hb1, hr6, rfl⟩
  have k1 := hr6.len
  replace i1 := i1.mono g
  have hfl : ∀ Hx, HLe H5 Hx → ∀ a c, HRow Hx a ([tabCells ta (([] ++ rcss) ++ [cellsRow ca cn cc]).length tc] ++ icss).length c 11 ([tabCells ta (([] ++ rcss) ++ [cellsRow ca cn cc]).length tc] ++ icss) → FlowH Hx a ([tabCells ta (([] ++ rcss) ++ [cellsRow ca cn cc]).length tc] ++ icss).length c (tabItem (p.rows ++ [(head0, p.cells)]) :: p.items) := by
    intro Hx hg a c hr
    refine ⟨_, hr, .cons (tabItemH ⟨_, hr6.mono hg, ?_⟩) (i2.mono fun _ _ z => z.mono (g.trans hg))⟩
    exact (r2.mono fun _ _ z => z.mono (g.trans hg)).append (.one (cellsRowH (CellsS.mono (g.trans hg) p3)))
  have hms : massL (tabItem (p.rows ++ [(head0, p.cells)]) :: p.items) < 34359738368 := by
    rw [tabMass, massR_append]
    have : massR [(head0, p.cells)] = 1 + massC p.cells := by simp [massR, Head.mass, head0]
    omega
  have io : ∀ cs ∈ [tabCells ta (([] ++ rcss) ++ [cellsRow ca cn cc]).length tc] ++ icss, ∀ u ∈ cs, u.oneCell' = true := by
    intro cs hcs
    rcases List.mem_append.1 hcs with hcs | hcs
    · rw [List.mem_singleton.1 hcs]; exact ones_of (css := [tabCells ta (([] ++ rcss) ++ [cellsRow ca cn cc]).length tc]) rfl _ (List.mem_singleton.2 rfl)
    · exact i2.ones (fun _ _ h => h.one) cs hcs
  repeat' (first | (show opsA _ _ _ _ (⟨_, .load _ _, _, _, _, _⟩ :: _) _ _; first | refine O_ev WideF.wide rfl (Ev_loadH1 rfl (hb1 0 _ rfl)) rfl rfl ?_ | refine O_ev WideF.wide rfl (Ev_loadH1 rfl (hb1 1 _ rfl)) rfl rfl ?_ | refine O_ev WideF.wide rfl (Ev_loadH1 rfl (hb1 2 _ rfl)) rfl rfl ?_ | refine O_ev WideF.wide rfl (Ev_loadH1 rfl (hb1 3 _ rfl)) rfl rfl ?_ | refine O_ev WideF.wide rfl (Ev_loadH1 rfl (hb1 7 _ rfl)) rfl rfl ?_ | refine O_ev WideF.wide rfl (Ev_loadH1 rfl (hb1 6 _ rfl)) rfl rfl ?_ | refine O_ev WideF.wide rfl (Ev_loadH rfl (hb1.sub 8 4) rfl) rfl rfl ?_) | (refine O_ef rfl (Ef_build1a WideF.wide (cs := tabCells ta (([] ++ rcss) ++ [cellsRow ca cn cc]).length tc) rfl rfl rfl rfl rfl ?_); intro b5) | (refine O_ef rfl (Ef_appendH WideF.wide rfl rfl i1 rfl rfl (by first | omega | (simp; omega)) (by first | omega | (simp; omega)) rfl ?_); intro a8 c8; refine O_freeze io ?_; intro H7 hle7 hr7; have hfew := Few_fn (hfl _ hle7 _ _ hr7) hms; have hb1 := hb1.mono hle7) | (refine O_ef rfl (Ef_call (I := []) WideF.wide (hfew) ⟨rfl, rfl, trivial⟩ rfl ?_); rintro v H8 I8 hle8 ⟨⟨r, rfl⟩, rfl⟩); have hb1 := hb1.mono hle8; cases r | refine O_nil ?_ | refine A_seq ?_ | refine A_region ?_ | refine A_ret ?_ | (show opsA _ _ _ _ _ _ _; first | (refine O_split rfl rfl (fun h => ?_) (fun h => ?_) <;> try (exfalso; omega)) | refine O_ev WideF.wide rfl (Ev_pure rfl) rfl rfl ?_ | (show opsA _ _ _ _ (⟨_, .load _ _, _, _, _, _⟩ :: _) _ _; first | refine O_ev WideF.wide rfl (Ev_loadB1 (i := 0) rfl rfl rfl) rfl rfl ?_ | refine O_ev WideF.wide rfl (Ev_loadB (i := 1) rfl rfl rfl) rfl rfl ?_) | (show opsA _ _ _ _ (⟨_, .fieldAddr _ _ _, _, _, _, _⟩ :: _) _ _; refine O_ev WideF.wide rfl (Ev_fieldAddr rfl rfl rfl) rfl rfl ?_) | (show opsA _ _ _ _ (⟨_, .call _, _, _, _, _⟩ :: _) _ _; refine O_ev WideF.wide rfl (Ev_llen rfl) rfl rfl ?_) | (show opsA _ _ _ _ (⟨_, .binOp _ _ _ _ _, _, _, _, _⟩ :: _) _ _; refine O_ev WideF.wide rfl (Ev_add rfl rfl (wi64 (by omega))) rfl rfl ?_) | (show opsA _ _ _ _ (⟨_, .alloc _, _, _, _, _⟩ :: _) _ _; (refine O_ef rfl (Ef_alloc WideF.wide rfl ?_); intro b)) | (show opsA _ _ _ _ (⟨_, .store _ _ _, _, _, _, _⟩ :: _) _ _; refine O_ef rfl (Ef_storew WideF.wide rfl rfl rfl rfl rfl ?_)) | refine O_skip WideF.wide rfl rfl rfl ?_))
  all_goals first
    | (exfalso; omega)
    | exact End_e (Ret1 rfl rfl) ⟨⟨_, rfl⟩, rfl⟩
    | trace_state
set_option maxHeartbeats 4000000 in
set_option maxRecDepth 100000 in
theorem small_fn {H : Hp} {cs : List Value} {s : Splice} (hx : SplH H cs s) (hm : s.fine) :
    Fn Tryz.prog 6 [.agg cs.toArray] H [] fun v _ I => (∃ r : Bool, v = .bool r) ∧ I = [] := by
  obtain ⟨ocs, ncs, rfl, p1, p2⟩ := hx.ex
  obtain ⟨o1, o2, o3, o4, o5, o6, o7, o8, o9, o10, o11, o12, rfl⟩ := list12 p1.one.1
  obtain ⟨u1, u2, u3, u4, u5, u6, u7, u8, u9, u10, u11, u12, rfl⟩ := list12 p2.one.1
  have k1 := fun Hx (h : HLe H Hx) => smallPiece_fn (p1.mono h) hm.1
  have k2 := fun Hx (h : HLe H Hx) => smallPiece_fn (p2.mono h) hm.2
  refine Fn_of _ _ Tryz.func6 rfl Tryz.ntmps6 rfl fun c => ?_
  repeat' (first | (refine O_ef rfl (Ef_boxa WideF.wide (cs := _ :: _ :: _ :: _ :: ([_, _, _, _, _, _, _, _, _, _, _, _] ++ [_, _, _, _, _, _, _, _, _, _, _, _])) rfl rfl ?_); intro b1; refine O_freezeBox hx.one.2 ?_; intro H1 hle1 hb1; have g := hle1) | (show opsA _ _ _ _ (⟨_, .load _ _, _, _, _, _⟩ :: _) _ _; first | refine O_ev WideF.wide rfl (Ev_loadH rfl (hb1.sub 4 12) rfl) rfl rfl ?_ | refine O_ev WideF.wide rfl (Ev_loadH rfl (hb1.sub 16 12) rfl) rfl rfl ?_) | (refine O_ef rfl (Ef_call (I := []) WideF.wide (k1 _ g) ⟨rfl, trivial⟩ rfl ?_); rintro v H2 I2 hle2 ⟨⟨r, rfl⟩, rfl⟩); have hb1 := hb1.mono hle2; have g := g.trans hle2; cases r | (refine O_ef rfl (Ef_call (I := []) WideF.wide (k2 _ g) ⟨rfl, trivial⟩ rfl ?_); rintro v H3 I3 hle3 ⟨⟨r, rfl⟩, rfl⟩); cases r | refine O_nil ?_ | refine A_seq ?_ | refine A_region ?_ | refine A_ret ?_ | (show opsA _ _ _ _ _ _ _; first | refine O_ev WideF.wide rfl (Ev_pure rfl) rfl rfl ?_ | (show opsA _ _ _ _ (⟨_, .fieldAddr _ _ _, _, _, _, _⟩ :: _) _ _; refine O_ev WideF.wide rfl (Ev_fieldAddr rfl rfl rfl) rfl rfl ?_) | refine O_skip WideF.wide rfl rfl rfl ?_))
  all_goals first
    | (exfalso; omega)
    | exact End_e (Ret1 rfl rfl) ⟨⟨_, rfl⟩, rfl⟩
    | trace_state

end Go.Proofs.YtofkolbnhcckkaaGreat
