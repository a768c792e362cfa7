/-
  The example's splice: Check, Size; the flows of a piece without other flows.
-/
import Derived.Test.YtcliojofponpnaaP4
namespace Go.Proofs.Ytcliojofponpnaa
open Go
set_option linter.unusedVariables false
set_option linter.unusedSimpArgs false
attribute [local irreducible] wpA opsA drJ drQ drE Ef Ev Shift Fn
attribute [local irreducible] unr
def itB (t : List UInt8) : Item := .mk 1 0 0 t head0 [] []
abbrev itBc (t : List UInt8) : List Value := [.int .i64 1, .int .i64 0, .int .i64 0, sv t, nilV, .int .i64 0, .int .i64 0, nilV, nilV, nilV, nilV]
theorem itBH (H : Hp) (t : List UInt8) : ItemH H (itBc t) (itB t) :=
  ItemH.of (x := itB t) (HRow.nil' H 2) (HRow.nil' H 2) (HRow.nil' H 4) (FlowH.nil H) ⟨[], HRow.nil' H 6, .nil⟩
theorem flB {H : Hp} {a : Option Addr} {c : Nat} {t : List UInt8} (h : HRow H a 1 c 11 [itBc t]) : FlowH H a 1 c [itB t] := ⟨[itBc t], h, .cons (itBH H t) .nil⟩
abbrev splL (a : Option Addr) (n c : Nat) : List Value := [.int .i64 1, .int .i64 0, .int .i64 1, .int .i64 0] ++ pieceL a n c ++ pieceL none 0 0
theorem splL_one (a : Option Addr) (n c : Nat) : ∀ u ∈ splL a n c, u.oneCell' = true := by
  intro u hu
  simp only [splL, pieceL, zHead, zSet, List.cons_append, List.nil_append, List.mem_cons, List.not_mem_nil, or_false] at hu
  rcases hu with rfl | rfl | rfl | rfl | rfl | rfl | rfl | rfl | rfl | rfl | rfl | rfl | rfl | rfl | rfl | rfl | rfl | rfl | rfl | rfl | rfl | rfl | rfl | rfl | rfl | rfl | rfl | rfl <;> rfl
theorem Ev_kind1 {e : Env} {H : Hp} {R : Own} {dst : Option Tmp} {ty : TypeId} {pos : String} {after : Array Edge} {g : Option (Nat × Bool)} {x y : Operand} {t b i : Nat} {kt : TypeId} [ht : UndC Try.prog t (.map kt 105)] [hk : UndC Try.prog kt (.int .i64)] (hx : e.eval x = some (.map (some b))) (hy : e.eval y = some (.int .i64 1)) (hR : oget R i = some (.obj b (mobj kindKvs))) :
    Ev Try.prog ⟨dst, .lookup t x y true, ty, pos, after, g⟩ e H R (.tuple [.agg useL.toArray, .bool true].toArray) := by
  haveI : Decidable (mhas kindKvs 1) := .isTrue (Or.inl rfl)
  have h := Ev_lookupIok (t := t) (kt := kt) (et := 105) (dst := dst) (ty := ty) (pos := pos) (after := after) (g := g) (H := H) (kvs := kindKvs) (q := 1) Try.zeroValue105 hx hy hR
  have hm : mhas kindKvs 1 := Or.inl rfl
  rw [@decide_eq_true (mhas kindKvs 1) _ hm] at h
  exact h
set_option maxRecDepth 100000 in
set_option maxHeartbeats 2000000 in
theorem Check_fn {H : Hp} {a : Option Addr} {n cp : Nat} {l : List Item} (hx : FlowH H a n cp l) (hm : massL l < 34359738368) (hok : okL l) (hno : l = normL l) :
    Fn Try.prog 23 [.agg (splL a n cp).toArray] H [] fun v _ I => v = .int .i64 0 ∧ I = [] := by
  have h1 := fun Hx => kinds_fn (H := Hx)
  have h2 := fun Hx a n c => spare_fn (H := Hx) (a := a) (n := n) (c := c)
  have h3 := fun Hx (h : HLe H Hx) => checkPiece_fn (hx.mono h) hm hok hno
  have h4 := fun Hx => checkPiece_fn (FlowH.nil Hx) (by decide) (fun x hx => by cases hx) rfl
  refine Fn_of _ _ Try.func23 rfl Try.ntmps23 rfl fun c => ?_
  repeat' (first | (refine O_ef rfl (Ef_boxa WideF.wide (cs := splL a n cp) rfl rfl ?_); intro b1; refine O_freezeBox (splL_one a n cp) ?_; intro H1 hle1 hb1; have g := hle1) | (refine A_drawM WideF.wide (.q 1 (.q 2 (.f 0 (.f 3 (.q 4 (.q 5 (.q 6 (.e 7 (.e 8 (.q 9 (.done []))))))) 7 (.e 3 (.q 4 (.q 5 (.q 6 (.e 8 (.q 9 (.done [])))))))) 7 (.e 0 (.e 3 (.q 4 (.q 5 (.q 6 (.e 8 (.q 9 (.done []))))))))))) [] (by decide +kernel) ?_) | (show drQ _ _ _ ⟨_, .load _ _, _, _, _, _⟩ _ _; refine D_ev rfl (Ev_loadH1 rfl (hb1 0 _ rfl)) rfl rfl ?_) | (refine E_ef rfl (Ef_call (I := []) WideF.wide (h1 _) trivial rfl ?_); rintro v H2 I2 hle2 ⟨bm, rfl, rfl, rfl⟩; refine ⟨⟨hle2, rfl⟩, ?_⟩); have hb1 := hb1.mono hle2; have g := g.trans hle2; clear hle2 | (refine E_ef rfl (Ef_ev WideF.wide (Ev_kind1 (i := 0) rfl rfl rfl) rfl rfl ?_); refine ⟨Grow.same rfl rfl, ?_⟩) | (refine E_ef rfl (Ef_ev WideF.wide (Ev_kind1 (i := 1) rfl rfl rfl) rfl rfl ?_); refine ⟨Grow.same rfl rfl, ?_⟩) | (show opsA _ _ _ _ (⟨_, .load _ _, _, _, _, _⟩ :: _) _ _; first | refine O_ev WideF.wide rfl (Ev_loadH1 rfl (hb1 1 _ rfl)) rfl rfl ?_ | refine O_ev WideF.wide rfl (Ev_loadH1 rfl (hb1 2 _ rfl)) rfl rfl ?_ | refine O_ev WideF.wide rfl (Ev_loadH1 rfl (hb1 3 _ rfl)) rfl rfl ?_ | refine O_ev WideF.wide rfl (Ev_loadH rfl (hb1.sub 4 12) rfl) rfl rfl ?_ | refine O_ev WideF.wide rfl (Ev_loadH rfl (hb1.sub 16 12) rfl) rfl rfl ?_) | (refine O_ef rfl (Ef_call (I := []) WideF.wide (h2 _ _ _ _) ⟨rfl, rfl, trivial⟩ rfl ?_); rintro v H3 I3 hle3 ⟨rfl, rfl⟩); have hb1 := hb1.mono hle3; have g := g.trans hle3; clear hle3 | (refine O_ef rfl (Ef_call (I := []) WideF.wide (h3 _ g) ⟨rfl, trivial⟩ rfl ?_); rintro v H4 I4 hle4 ⟨rfl, rfl⟩); have hb1 := hb1.mono hle4; have g := g.trans hle4; clear hle4 | (refine O_ef rfl (Ef_call (I := []) WideF.wide (h4 _) ⟨rfl, trivial⟩ rfl ?_); rintro v H5 I5 hle5 ⟨rfl, rfl⟩) | refine O_nil ?_ | refine A_seq ?_ | refine A_region ?_ | refine A_skip ?_ | refine A_ret ?_ | refine A_block ?_ | (show drJ _ _ _ _ _ _ _ (.q _ _) _; refine D_q rfl ?_) | (show drJ _ _ _ _ _ _ _ (.e _ _) _; refine D_e rfl ?_) | (show drJ _ _ _ _ _ _ _ (.f _ _ _ _) _; refine D_f rfl rfl ?_ ?_) | (show drJ _ _ _ _ _ _ _ (.done _) _; refine D_done ?_; simp only [List.cons_append, List.nil_append]) | (show drQ _ _ _ _ _ _; first | refine D_ev rfl (Ev_pure rfl) rfl rfl ?_ | (show drQ _ _ _ ⟨_, .fieldAddr _ _ _, _, _, _, _⟩ _ _; refine D_ev rfl (Ev_fieldAddr rfl rfl rfl) rfl rfl ?_)) | (show drE _ _ _ _ _ _ _; first | (show drE _ _ _ _ ⟨_, .alloc _, _, _, _, _⟩ _ _; (refine E_ef rfl (Ef_alloc WideF.wide rfl ?_); intro b; refine ⟨Grow.same rfl rfl, ?_⟩)) | (show drE _ _ _ _ ⟨_, .store _ _ _, _, _, _, _⟩ _ _; first | (refine E_ef rfl (Ef_storew WideF.wide rfl rfl rfl rfl rfl ?_); refine ⟨Grow.same rfl rfl, ?_⟩) | (refine E_ef rfl (Ef_f1 (Ef_storew WideF.wide rfl rfl rfl rfl rfl ?_)); refine ⟨Grow.same rfl rfl, ?_⟩))) | (show opsA _ _ _ _ _ _ _; first | (refine O_split rfl rfl (fun h => ?_) (fun h => ?_) <;> try (exfalso; omega)) | refine O_ev WideF.wide rfl (Ev_pure rfl) rfl rfl ?_ | (show opsA _ _ _ _ (⟨_, .load _ _, _, _, _, _⟩ :: _) _ _; first | refine O_ev WideF.wide rfl (Ev_loadB1 (i := 0) rfl rfl rfl) rfl rfl ?_ | refine O_ev WideF.wide rfl (Ev_loadB (i := 0) rfl rfl rfl) rfl rfl ?_) | (show opsA _ _ _ _ (⟨_, .fieldAddr _ _ _, _, _, _, _⟩ :: _) _ _; refine O_ev WideF.wide rfl (Ev_fieldAddr rfl rfl rfl) rfl rfl ?_) | (show opsA _ _ _ _ (⟨_, .unOp _ _ _, _, _, _, _⟩ :: _) _ _; refine O_ev WideF.wide rfl (Ev_notb rfl) rfl rfl ?_) | refine O_skip WideF.wide rfl rfl rfl ?_) | (show wpA _ _ _ (.cond _ _ _) _ _ _ _; first | (refine A_if rfl (fun h => ?_) (fun h => ?_) <;> try (exfalso; omega)) | refine A_iffalse rfl ?_))
  all_goals first
    | (exfalso; omega)
    | exact End_e (Ret1 rfl rfl) ⟨rfl, rfl⟩
    | (exfalso; exact absurd trivial (by assumption))
    | trace_state
set_option maxRecDepth 100000 in
set_option maxHeartbeats 1000000 in
theorem Size_fn {H : Hp} {a : Option Addr} {n cp : Nat} {l : List Item} (hx : FlowH H a n cp l) (hm : massL l < 34359738368) (hok : okL l) (hno : l = normL l) :
    Fn Try.prog 14 [.agg (splL a n cp).toArray] H [] fun v _ I => v = .tuple [.int .i64 (lenV l), .int .i64 0].toArray ∧ I = [] := by
  have h1 := fun Hx (h : HLe H Hx) => Check_fn (hx.mono h) hm hok hno
  have h2 := fun Hx (h : HLe H Hx) => size_fn (hx.mono h) hm
  have h3 := fun Hx => size_fn (FlowH.nil Hx) (by decide)
  have e3 : lenV [] = 0 := by decide
  rw [e3] at h3
  refine Fn_of _ _ Try.func14 rfl Try.ntmps14 rfl fun c => ?_
  repeat' (first | (refine O_ef rfl (Ef_boxa WideF.wide (cs := splL a n cp) rfl rfl ?_); intro b1; refine O_freezeBox (splL_one a n cp) ?_; intro H1 hle1 hb1; have g := hle1) | (show opsA _ _ _ _ (⟨_, .load _ _, _, _, _, _⟩ :: _) _ _; refine O_ev WideF.wide rfl (Ev_loadH rfl hb1 rfl) rfl rfl ?_) | (refine O_ef rfl (Ef_call (I := []) WideF.wide (h1 _ g) ⟨rfl, trivial⟩ rfl ?_); rintro v H2 I2 hle2 ⟨rfl, rfl⟩); have hb1 := hb1.mono hle2; have g := g.trans hle2; clear hle2 | (refine A_drawM WideF.wide (.q 0 (.q 1 (.q 2 (.q 3 (.q 5 (.q 6 (.q 7 (.q 8 (.e 4 (.e 9 (.q 10 (.q 11 (.done []))))))))))))) [] (by decide +kernel) ?_) | (show drQ _ _ _ ⟨_, .load _ _, _, _, _, _⟩ _ _; first | refine D_ev rfl (Ev_loadH1 rfl (hb1 0 _ rfl)) rfl rfl ?_ | refine D_ev rfl (Ev_loadH rfl (hb1.sub 4 12) rfl) rfl rfl ?_ | refine D_ev rfl (Ev_loadH rfl (hb1.sub 16 12) rfl) rfl rfl ?_) | (refine E_ef rfl (Ef_call (I := []) WideF.wide (h2 _ g) ⟨rfl, rfl, trivial⟩ rfl ?_); rintro v H3 I3 hle3 ⟨rfl, rfl⟩; refine ⟨⟨hle3, rfl⟩, ?_⟩) | (refine E_ef rfl (Ef_call (I := []) WideF.wide (h3 _) ⟨rfl, rfl, trivial⟩ rfl ?_); rintro v H4 I4 hle4 ⟨rfl, rfl⟩; refine ⟨⟨hle4, rfl⟩, ?_⟩) | refine O_nil ?_ | refine A_seq ?_ | refine A_region ?_ | refine A_skip ?_ | refine A_ret ?_ | (show drJ _ _ _ _ _ _ _ (.q _ _) _; refine D_q rfl ?_) | (show drJ _ _ _ _ _ _ _ (.e _ _) _; refine D_e rfl ?_) | (show drJ _ _ _ _ _ _ _ (.done _) _; refine D_done ?_; simp only [List.cons_append, List.nil_append]) | (show drQ _ _ _ _ _ _; first | refine D_ev rfl (Ev_pure rfl) rfl rfl ?_ | (show drQ _ _ _ ⟨_, .fieldAddr _ _ _, _, _, _, _⟩ _ _; refine D_ev rfl (Ev_fieldAddr rfl rfl rfl) rfl rfl ?_)) | (show opsA _ _ _ _ _ _ _; refine O_ev WideF.wide rfl (Ev_pure rfl) rfl rfl ?_) | (show wpA _ _ _ (.cond _ _ _) _ _ _ _; (refine A_if rfl (fun h => ?_) (fun h => ?_) <;> try (exfalso; omega))))
  all_goals first
    | (exfalso; omega)
    | exact End_e (Ret2 rfl rfl rfl) ⟨rfl, rfl⟩
    | (exfalso; exact absurd rfl (by assumption))
    | trace_state
end Go.Proofs.Ytcliojofponpnaa
