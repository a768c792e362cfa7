/-
  The law RunNormals.
-/
import Derived.Test.YthbnhcgphkghaaaR26
namespace Go.Proofs.Ythbnhcgphkghaaa
open Go
set_option linter.unusedVariables false
set_option linter.unusedSimpArgs false
theorem Ev_eqbs {P : Program} {e : Env} {H : Hp} {R : Own} {dst : Option Tmp} {ty : TypeId} {pos : String} {after : Array Edge} {g : Option (Nat × Bool)} {x y : Operand} {t t2 : TypeId} [ht : UndC P t .bool] {b : Bool} (hx : e.eval x = some (.bool b)) (hy : e.eval y = some (.bool b)) : Ev P ⟨dst, .binOp .eql t x y t2, ty, pos, after, g⟩ e H R (.bool true) := by
  have h := Ev_eqb (P := P) (H := H) (R := R) (dst := dst) (ty := ty) (pos := pos) (after := after) (g := g) (t := t) (t2 := t2) hx hy
  have hb : (b == b) = true := by cases b <;> rfl
  rwa [hb] at h
theorem rEqual_same {H : Hp} {a : Option Addr} {n c : Nat} {a' : Option Addr} {n' c' : Nat} {l l' : List Item} (hx : FlowH H a n c l) (hx' : FlowH H a' n' c' l') (hm : massL l < 68719476735) (he : l = l') : FnP Try.prog 23 [.slice a n c, .slice a' n' c'] H (.bool true) := by
  have h := rEqual_fn hx hx' hm
  rwa [decide_eq_true he] at h
attribute [local irreducible] wpA opsA drJ drQ drE Ef Ev Shift Fn
set_option maxHeartbeats 2000000 in
set_option maxRecDepth 100000 in
theorem RunNormals_fn {H : Hp} {a : Option Addr} {n cq : Nat} {l : List Item} (hx0 : FlowH H a n cq l) (hm : massL l < 17179869184) :
    Fn Try.prog 6 [.slice a n cq] H [] fun v _ I' => v = .bool true ∧ I' = [] := by
  have hn := hx0.len
  have hml := massL_len l
  have hnm := normL_mass l
  have hid := normL_idem l
  have hfl := ftext_len l
  have hfl2 := ftext_len (normL l)
  refine Fn_of _ _ Try.func6 rfl Try.ntmps6 rfl fun c => ?_
  repeat' (first | (refine O_ef rfl (Ef_call (I := []) WideF.wide known_fn trivial rfl ?_); rintro v H1 I1 hle1 ⟨rfl, rfl⟩) | (refine O_ef rfl (Ef_buildn WideF.wide (xs := [_]) (vs := [.slice _ _ _]) rfl ⟨rfl, trivial⟩ rfl rfl rfl rfl rfl rfl ?_); intro bl; refine O_freeze (ones_of rfl) ?_; intro H2 hle2 hr2; have hx := hx0.mono (hle1.trans hle2); have hsm := Small_fn (ls := [l]) hr2 (.cons hx .nil) (by intro y hy; simp at hy; subst hy; omega) (by omega)) | (refine O_ef rfl (Ef_call (I := []) WideF.wide hsm ⟨rfl, trivial⟩ rfl ?_); rintro v H3 I3 hle3 ⟨⟨sb, rfl⟩, rfl, rfl⟩; cases sb) | (refine O_ef rfl (Ef_call (I := []) WideF.wide (rNormal_fn hx (by omega)) ⟨rfl, trivial⟩ rfl ?_); rintro v H4 I4 hle4 ⟨⟨wa, wn, wc, rfl, hw⟩, rfl⟩) | (refine O_ef rfl (Ef_call (I := []) WideF.wide (Normal_fn (hx.mono hle4) (by omega)) ⟨rfl, trivial⟩ rfl ?_); rintro v H5 I5 hle5 ⟨⟨na, nn, nc, rfl, hv⟩, rfl⟩; have e1 := rEqual_same hv (hw.mono hle5) (by omega) rfl) | (refine O_ef rfl (Ef_callp WideF.wide e1 ⟨rfl, rfl, trivial⟩ rfl ?_)) | (refine O_ef rfl (Ef_call (I := []) WideF.wide (IsNormal_fn (hx.mono (hle4.trans hle5)) (by omega)) ⟨rfl, trivial⟩ rfl ?_); rintro v H6 I6 hle6 ⟨rfl, rfl⟩; have e2 := rEqual_fn (hx.mono ((hle4.trans hle5).trans hle6)) (hw.mono (hle5.trans hle6)) (by omega); have f2 := IsNormal_fn (hv.mono hle6) (by omega); rw [hid, decide_eq_true rfl] at f2) | (refine O_ef rfl (Ef_callp WideF.wide e2 ⟨rfl, rfl, trivial⟩ rfl ?_)) | (refine O_ev WideF.wide rfl (Ev_eqbs rfl rfl) rfl rfl ?_) | (refine O_ef rfl (Ef_call (I := []) WideF.wide f2 ⟨rfl, trivial⟩ rfl ?_); rintro v H7 I7 hle7 ⟨rfl, rfl⟩; have f3 := Normal_fn (hv.mono (hle6.trans hle7)) (by omega); rw [hid] at f3) | (refine O_ef rfl (Ef_call (I := []) WideF.wide f3 ⟨rfl, trivial⟩ rfl ?_); rintro v H8 I8 hle8 ⟨⟨ma, mn, mc, rfl, hm8⟩, rfl⟩; have hle48 : HLe H4 H8 := hle5.trans (hle6.trans (hle7.trans hle8)); have e3 := rEqual_same hm8 (hw.mono hle48) (by omega) rfl; have e4 := vanishes_fn (hx.mono (hle4.trans hle48)) (by omega); have e5 := Text_fn (hv.mono (hle6.trans (hle7.trans hle8))) (by omega); have e6 := Text_fn (hx.mono (hle4.trans hle48)) (by omega)) | (refine O_ef rfl (Ef_callp WideF.wide e3 ⟨rfl, rfl, trivial⟩ rfl ?_)) | (refine O_ef rfl (Ef_callp WideF.wide e4 ⟨rfl, trivial⟩ rfl ?_)) | (refine O_ef rfl (Ef_callp WideF.wide e5 ⟨rfl, trivial⟩ rfl ?_)) | (refine O_ef rfl (Ef_callp WideF.wide e6 ⟨rfl, trivial⟩ rfl ?_)) | refine O_nil ?_ | refine A_seq ?_ | refine A_region ?_ | refine A_skip ?_ | refine A_ret ?_ | (show opsA _ _ _ _ _ _ _; first | (refine O_split rfl rfl (fun h => ?_) (fun h => ?_) <;> try (exfalso; omega)) | refine O_ev WideF.wide rfl (Ev_pure rfl) rfl rfl ?_ | (show opsA _ _ _ _ (⟨_, .binOp _ _ _ _ _, _, _, _, _⟩ :: _) _ _; refine O_ev WideF.wide rfl (Ev_seql rfl rfl) rfl rfl ?_) | (show opsA _ _ _ _ (⟨_, .unOp _ _ _, _, _, _, _⟩ :: _) _ _; refine O_ev WideF.wide rfl (Ev_notb rfl) rfl rfl ?_) | refine O_skip WideF.wide rfl rfl rfl ?_) | (show wpA _ _ _ (.cond _ _ _) _ _ _ _; first | refine A_iftrue rfl ?_ | refine A_iffalse rfl ?_))
  all_goals first
    | exact End_e (Ret1 rfl rfl) ⟨rfl, rfl⟩
    | (refine End_e (Ret1 rfl rfl) ⟨?_, rfl⟩
       rw [decide_eq_true (normL_ftext (by assumption))])
end Go.Proofs.Ythbnhcgphkghaaa
