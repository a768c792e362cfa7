/-
  The law Lazy. Printed by genF44.py.
-/
import Derived.Test.YtnoadopmeoohmaaGreatDoorF43
namespace Go.Proofs.YtnoadopmeoohmaaGreatDoor
open Go
set_option linter.unusedVariables false
set_option linter.unusedSimpArgs false
inductive Gv where
  | fn
  | nd (x : Nd)
  | ns (l : List Nd)
def Gv.sat : Gv → Value → Hp → Prop
  | .fn, v, _ => v = .func (.func 24) #[] #[]
  | .nd x, v, H => ∃ cs, v = .agg cs.toArray ∧ NodeH H cs x
  | .ns l, v, H => ∃ b, v = .slice (some ⟨b, 0, none⟩) l.length l.length ∧ NodesS H (some ⟨b, 0, none⟩) l.length l.length l
theorem Gv.mono (g : Gv) {v : Value} {H H' : Hp} (hle : HLe H H') (h : g.sat v H) : g.sat v H' := by
  cases g with
  | fn => exact h
  | nd x => obtain ⟨cs, h1, h2⟩ := h; exact ⟨cs, h1, h2.mono hle⟩
  | ns l => obtain ⟨b, h1, h2⟩ := h; exact ⟨b, h1, NodesS.mono hle h2⟩
theorem All2.len4 {H : Hp} {css : List (List Value)} {l : List Nd} (h : All2 (NodeH H) css l) : css.all (fun cs => Nat.beq cs.length 4) = true := by
  induction h with
  | nil => rfl
  | cons h _ ih =>
    obtain ⟨a, n, c, rfl, _⟩ := h.cells
    simp only [List.all_cons, ih, Bool.and_true]
    rfl
theorem All2.one4 {H : Hp} {css : List (List Value)} {l : List Nd} (h : All2 (NodeH H) css l) : ∀ cs ∈ css, ∀ u ∈ cs, u.oneCell' = true := by
  induction h with
  | nil => intro cs hc; cases hc
  | cons h _ ih =>
    intro cs hc
    rcases List.mem_cons.1 hc with rfl | hc
    · exact h.one
    · exact ih cs hc
theorem All2.lenE {H : Hp} {css : List (List Value)} {l : List Nd} (h : All2 (NodeH H) css l) : css.length = l.length := by
  induction h with
  | nil => rfl
  | cons _ _ ih => simp [ih]
theorem G_build {F : Fence} {P : Program} {c : Ctx} {n : Nat} {e : Env} {H : Hp} {M L : Own} {D : List Deferred} {d : Nat} {ty : TypeId} {pos : String} {after : Array Edge} {g : Option (Nat × Bool)} {t : TypeId} (hF : WideF F) {el bytes len : Nat} {ag : Bool} {zc : List Value} {xs : List Operand} {ps : Array (Nat × Operand)} [ht : UndC P t (.slice el)] [hT : TyC P el ag 4] [hI : InfoC P el bytes] [hz : ZeroL P el zc]
    {css : List (List Value)} {l : List Nd} (hps : ps.toList = (xs.zipIdx 0).map fun q => (q.2, q.1)) (hx : EvalAll e xs (css.map fun cs => .agg cs.toArray)) (hs : All2 (NodeH H) css l) (hlen : l.length = len) (hpos : Nat.blt 0 (len * 4) = true) (hsmall : Nat.ble (len * 4) 16777216 = true) (hn : Nat.blt d n = true) :
    Ef F P c ⟨some d, .buildSlice t len ps, ty, pos, after, g⟩ ⟨n, e, H, M, L, D⟩ (fun s' => ∃ v H', s' = ⟨n, (d, v) :: e, H', M, L, D⟩ ∧ HLe H H' ∧ (Gv.ns l).sat v H') :=
  Ef_buildF hF (css := css) hps hx (by rw [List.map_map]; conv => rhs; rw [← List.map_id css]
                                       exact List.map_congr_left fun cs _ => by simp [Value.cells]) (by rw [List.length_map, hs.lenE, hlen]) hpos hsmall hs.len4 hn hs.one4 fun b H' hle hr => by
    subst hlen
    exact ⟨_, H', rfl, hle, b, rfl, css, hr, All2.mono (fun _ _ h => h.mono hle) hs⟩
def lzSpec (x : Nd) : Nat → Gv
  | 0 => .fn | 1 => .nd yesN | 2 => .nd noN | 3 => .nd x | 4 => .ns [yesN, noN, x] | 5 => .nd (lzy x 0)
  | 6 => .fn | 7 => .nd noN | 8 => .nd x | 9 => .nd yesN | 10 => .ns [noN, x, yesN] | 11 => .nd (lzy x 1)
  | 12 => .nd noN | 13 => .nd x | 14 => .ns [noN, x] | 15 => .nd (lzy x 2)
  | 16 => .nd yesN | 17 => .nd x | 18 => .ns [yesN, x] | 19 => .nd (lzy x 3)
  | 20 => .fn | 21 => .nd yesN | 22 => .nd x | 23 => .nd noN | 24 => .ns [yesN, x, noN] | 25 => .nd (lzy x 4)
  | _ => .ns [lzy x 0, lzy x 1, lzy x 2, lzy x 3, lzy x 4]
theorem yes_node (H : Hp) : NodeH H [.int .i64 3, .int .i64 1, sv [], .slice none 0 0] yesN := NodeH.of (x := yesN) (NodesS.nil H)
theorem no_node (H : Hp) : NodeH H [.int .i64 3, .int .i64 0, sv [], .slice none 0 0] noN := NodeH.of (x := noN) (NodesS.nil H)
attribute [local irreducible] wpA opsA drJ drQ drE Ef Ev Shift Fn
theorem lz_call {H : Hp} {a : Option Addr} {n cp : Nat} : FnP Tryz.prog 24 [.slice a n cp] H (.agg [.int .i64 5, .int .i64 0, sv ifS, .slice a n cp].toArray) := by
  refine Fn_of _ _ Tryz.func24 rfl Tryz.ntmps24 rfl fun c => ?_
  repeat' (first | refine O_nil ?_ | refine A_seq ?_ | refine A_region ?_ | refine A_ret ?_ | (show opsA _ _ _ _ _ _ _; first | refine O_ev WideF.wide rfl (Ev_pure rfl) rfl rfl ?_ | (show opsA _ _ _ _ (⟨_, .build _ _, _, _, _, _⟩ :: _) _ _; refine O_ev WideF.wide rfl (Ev_build (vs := [(_, _), (_, _), (_, _)]) ⟨rfl, rfl, rfl, rfl, rfl, rfl, trivial⟩ rfl) rfl rfl ?_) | (show opsA _ _ _ _ (⟨_, .alloc _, _, _, _, _⟩ :: _) _ _; (refine O_ef rfl (Ef_alloc WideF.wide rfl ?_); intro b)) | (show opsA _ _ _ _ (⟨_, .store _ _ _, _, _, _, _⟩ :: _) _ _; refine O_ef rfl (Ef_storew WideF.wide rfl rfl rfl rfl rfl ?_))))
  exact End_p (RetC (i := 0) rfl rfl rfl rfl) rfl

set_option maxRecDepth 100000 in
set_option maxHeartbeats 16000000 in
theorem FormulaLazy_fn {H : Hp} {cs : List Value} {x : Nd} {ea : Option Addr} {en ec : Nat} {env : List Bnd} (hx : NodeH H cs x) (hm : x.mass < 34359738000) (henv : HRow H ea en ec 4 (env.map bdrow)) (hen : en < 4611686018427387904) (hE : EnvV env) (hV : VarsH H) :
    Fn Tryz.prog 7 [.agg cs.toArray, .slice ea en ec] H [] fun v _ I => v = .bool true ∧ I = [] := by
  have hone := hx.one
  have kK := fun Hx (h : HLe H Hx) => known_fn (hV.mono h)
  have kS := fun Hx (h : HLe H Hx) => lsmall_fn (hx.mono h) (by omega)
  have kF := fun Hx (h : HLe H Hx) => fine_fn (henv.mono h) (fun y hy => by have := (hE y hy).2; omega)
  have kC := fun Hx cs y (hy : NodeH Hx cs y) (h : y.mass < 34359738368) => Check_fn hy h
  have kV := fun Hx cs y (hle : HLe H Hx) (hy : NodeH Hx cs y) (h : y.mass < 34359738368) => Eval_fn hy h (henv.mono hle) hen hE (hV.mono hle)
  obtain ⟨a, n, cp, rfl, hs⟩ := hx.cells
  refine Fn_of _ _ Tryz.func7 rfl Tryz.ntmps7 rfl fun c => ?_
  repeat' (first | (refine O_ef rfl (Ef_boxa WideF.wide (cs := [.int .i64 x.op, .int .i64 x.num, sv x.text, .slice a n cp]) rfl rfl ?_); intro b2; refine O_freezeBox hone ?_; intro H1 hle1 hc) | (show opsA _ _ _ _ (⟨some 16, .call _, _, _, _, _⟩ :: _) _ _; refine O_ef rfl (Ef_call (I := []) WideF.wide (kK _ hle1) trivial rfl ?_); rintro v2 H2 I2 hle2 ⟨rfl, rfl⟩) | (show opsA _ _ _ _ (⟨some 19, .load _ _, _, _, _, _⟩ :: _) _ _; refine O_ev WideF.wide rfl (Ev_loadH rfl (hc.mono hle2) rfl) rfl rfl ?_) | (show opsA _ _ _ _ (⟨some 20, .call _, _, _, _, _⟩ :: _) _ _; refine O_ef rfl (Ef_call (I := []) WideF.wide (kS _ (hle1.trans hle2)) ⟨rfl, trivial⟩ rfl ?_); rintro v3 H3 I3 hle3 ⟨⟨r3, rfl⟩, rfl⟩; cases r3) | (show opsA _ _ _ _ (⟨some 25, .call _, _, _, _, _⟩ :: _) _ _; refine O_ef rfl (Ef_call (I := []) WideF.wide (kF _ ((hle1.trans hle2).trans hle3)) ⟨rfl, trivial⟩ rfl ?_); rintro v4 H4 I4 hle4 ⟨⟨r4, rfl⟩, rfl⟩; cases r4) | (show opsA _ _ _ _ (⟨some 28, .call _, _, _, _, _⟩ :: _) _ _; refine O_ef rfl (Ef_call (I := []) WideF.wide (kK _ (by first | exact ((hle1.trans hle2).trans hle3).trans hle4 | exact (hle1.trans hle2).trans hle3)) trivial rfl ?_); rintro v5 H5 I5 hle5 ⟨rfl, rfl⟩) | refine O_nil ?_ | refine A_seq ?_ | refine A_region ?_ | refine A_skip ?_ | refine A_ret ?_ | (show opsA _ _ _ _ _ _ _; first | refine O_ev WideF.wide rfl (Ev_pure rfl) rfl rfl ?_ | (show opsA _ _ _ _ (⟨_, .unOp _ _ _, _, _, _, _⟩ :: _) _ _; refine O_ev WideF.wide rfl (Ev_notb rfl) rfl rfl ?_) | (show opsA _ _ _ _ (⟨_, .build _ _, _, _, _, _⟩ :: _) _ _; first | refine O_ev WideF.wide rfl (Ev_build (vs := [(_, _)]) ⟨rfl, rfl, trivial⟩ rfl) rfl rfl ?_ | refine O_ev WideF.wide rfl (Ev_build (vs := [(_, _), (_, _)]) ⟨rfl, rfl, rfl, rfl, trivial⟩ rfl) rfl rfl ?_) | (show opsA _ _ _ _ (⟨_, .alloc _, _, _, _, _⟩ :: _) _ _; (refine O_ef rfl (Ef_alloc WideF.wide rfl ?_); intro b)) | (show opsA _ _ _ _ (⟨_, .store _ _ _, _, _, _, _⟩ :: _) _ _; refine O_f1 (O_ef rfl (Ef_storew WideF.wide rfl rfl rfl rfl rfl ?_))) | refine O_skip WideF.wide rfl rfl rfl ?_) | (show wpA _ _ _ (.cond _ _ _) _ _ _ _; first | refine A_iftrue rfl ?_ | refine A_iffalse rfl ?_))
  all_goals first
    | (exfalso; omega)
    | (exfalso; contradiction)
    | (exfalso; exact absurd trivial (by assumption))
    | (exfalso; exact absurd rfl (by assumption))
    | exact End_e (Ret1 rfl rfl) ⟨rfl, rfl⟩
    | skip
  have hle4' := ((hle1.trans hle2).trans hle3).trans hle4
  refine A_freezeBox (cs := [.int .i64 3, .int .i64 0, sv [], .slice none 0 0]) (no_node H).one ?_
  intro H5 hle5 hc6
  refine A_freezeBox (cs := [.int .i64 3, .int .i64 1, sv [], .slice none 0 0]) (yes_node H).one ?_
  intro H6 hle6 hc5
  replace hc6 := hc6.mono hle6
  have hle6' := (hle4'.trans hle5).trans hle6
  have hc2 := hc.mono ((((hle2.trans hle3).trans hle4).trans hle5).trans hle6)
  have hx5 := hx.mono hle6'
  refine A_drawG WideF.wide (fun i v H => (lzSpec x i).sat v H) (fun i v H H' hle h => (lzSpec x i).mono hle h) (by rfl) ?_ ?_
  · intro i o d ho hd hn e H hle hb hdep
    cases i with
    | zero =>
      obtain rfl := Option.some.inj ho; obtain rfl := Option.some.inj hd; refine ⟨rfl, ?_⟩
      exact Ef_ev WideF.wide (Ev_pure (show Env.find e 7 = some _ from hb 7 _ rfl)) rfl hn ⟨_, _, rfl, HLe.refl _, rfl⟩
    | succ i =>
     cases i with
     | zero =>
       obtain rfl := Option.some.inj ho; obtain rfl := Option.some.inj hd; refine ⟨rfl, ?_⟩
       exact Ef_ev WideF.wide (Ev_loadH (show Env.find e 5 = some _ from hb 5 _ rfl) (hc5.mono hle) rfl) rfl hn ⟨_, _, rfl, HLe.refl _, _, rfl, yes_node _⟩
     | succ i =>
      cases i with
      | zero =>
        obtain rfl := Option.some.inj ho; obtain rfl := Option.some.inj hd; refine ⟨rfl, ?_⟩
        exact Ef_ev WideF.wide (Ev_loadH (show Env.find e 6 = some _ from hb 6 _ rfl) (hc6.mono hle) rfl) rfl hn ⟨_, _, rfl, HLe.refl _, _, rfl, no_node _⟩
      | succ i =>
       cases i with
       | zero =>
         obtain rfl := Option.some.inj ho; obtain rfl := Option.some.inj hd; refine ⟨rfl, ?_⟩
         exact Ef_ev WideF.wide (Ev_loadH (show Env.find e 2 = some _ from hb 2 _ rfl) (hc2.mono hle) rfl) rfl hn ⟨_, _, rfl, HLe.refl _, _, rfl, hx5.mono hle⟩
       | succ i =>
        cases i with
        | zero =>
          obtain rfl := Option.some.inj ho; obtain rfl := Option.some.inj hd; refine ⟨rfl, ?_⟩
          obtain ⟨_, f0, c0, rfl, n0⟩ := hdep 1 _ _ rfl rfl rfl; obtain ⟨_, f1, c1, rfl, n1⟩ := hdep 2 _ _ rfl rfl rfl; obtain ⟨_, f2, c2, rfl, n2⟩ := hdep 3 _ _ rfl rfl rfl; exact G_build (css := [c0, c1, c2]) (xs := [_, _, _]) WideF.wide rfl ⟨f0, f1, f2, trivial⟩ (.cons n0 (.cons n1 (.cons n2 .nil))) rfl rfl rfl hn
        | succ i =>
         cases i with
         | zero =>
           obtain rfl := Option.some.inj ho; obtain rfl := Option.some.inj hd; refine ⟨rfl, ?_⟩
           obtain ⟨_, f0, rfl⟩ := hdep 0 _ _ rfl rfl rfl; obtain ⟨_, f1, b, rfl, hns⟩ := hdep 4 _ _ rfl rfl rfl; exact Ef_callvp WideF.wide lz_call f0 ⟨f1, trivial⟩ hn ⟨_, _, rfl, HLe.refl _, _, rfl, NodeH.of (x := lzy x 0) hns⟩
         | succ i =>
          cases i with
          | zero =>
            obtain rfl := Option.some.inj ho; obtain rfl := Option.some.inj hd; refine ⟨rfl, ?_⟩
            exact Ef_ev WideF.wide (Ev_pure (show Env.find e 7 = some _ from hb 7 _ rfl)) rfl hn ⟨_, _, rfl, HLe.refl _, rfl⟩
          | succ i =>
           cases i with
           | zero =>
             obtain rfl := Option.some.inj ho; obtain rfl := Option.some.inj hd; refine ⟨rfl, ?_⟩
             exact Ef_ev WideF.wide (Ev_loadH (show Env.find e 6 = some _ from hb 6 _ rfl) (hc6.mono hle) rfl) rfl hn ⟨_, _, rfl, HLe.refl _, _, rfl, no_node _⟩
           | succ i =>
            cases i with
            | zero =>
              obtain rfl := Option.some.inj ho; obtain rfl := Option.some.inj hd; refine ⟨rfl, ?_⟩
              exact Ef_ev WideF.wide (Ev_loadH (show Env.find e 2 = some _ from hb 2 _ rfl) (hc2.mono hle) rfl) rfl hn ⟨_, _, rfl, HLe.refl _, _, rfl, hx5.mono hle⟩
            | succ i =>
             cases i with
             | zero =>
               obtain rfl := Option.some.inj ho; obtain rfl := Option.some.inj hd; refine ⟨rfl, ?_⟩
               exact Ef_ev WideF.wide (Ev_loadH (show Env.find e 5 = some _ from hb 5 _ rfl) (hc5.mono hle) rfl) rfl hn ⟨_, _, rfl, HLe.refl _, _, rfl, yes_node _⟩
             | succ i =>
              cases i with
              | zero =>
                obtain rfl := Option.some.inj ho; obtain rfl := Option.some.inj hd; refine ⟨rfl, ?_⟩
                obtain ⟨_, f0, c0, rfl, n0⟩ := hdep 7 _ _ rfl rfl rfl; obtain ⟨_, f1, c1, rfl, n1⟩ := hdep 8 _ _ rfl rfl rfl; obtain ⟨_, f2, c2, rfl, n2⟩ := hdep 9 _ _ rfl rfl rfl; exact G_build (css := [c0, c1, c2]) (xs := [_, _, _]) WideF.wide rfl ⟨f0, f1, f2, trivial⟩ (.cons n0 (.cons n1 (.cons n2 .nil))) rfl rfl rfl hn
              | succ i =>
               cases i with
               | zero =>
                 obtain rfl := Option.some.inj ho; obtain rfl := Option.some.inj hd; refine ⟨rfl, ?_⟩
                 obtain ⟨_, f0, rfl⟩ := hdep 6 _ _ rfl rfl rfl; obtain ⟨_, f1, b, rfl, hns⟩ := hdep 10 _ _ rfl rfl rfl; exact Ef_callvp WideF.wide lz_call f0 ⟨f1, trivial⟩ hn ⟨_, _, rfl, HLe.refl _, _, rfl, NodeH.of (x := lzy x 1) hns⟩
               | succ i =>
                cases i with
                | zero =>
                  obtain rfl := Option.some.inj ho; obtain rfl := Option.some.inj hd; refine ⟨rfl, ?_⟩
                  exact Ef_ev WideF.wide (Ev_loadH (show Env.find e 6 = some _ from hb 6 _ rfl) (hc6.mono hle) rfl) rfl hn ⟨_, _, rfl, HLe.refl _, _, rfl, no_node _⟩
                | succ i =>
                 cases i with
                 | zero =>
                   obtain rfl := Option.some.inj ho; obtain rfl := Option.some.inj hd; refine ⟨rfl, ?_⟩
                   exact Ef_ev WideF.wide (Ev_loadH (show Env.find e 2 = some _ from hb 2 _ rfl) (hc2.mono hle) rfl) rfl hn ⟨_, _, rfl, HLe.refl _, _, rfl, hx5.mono hle⟩
                 | succ i =>
                  cases i with
                  | zero =>
                    obtain rfl := Option.some.inj ho; obtain rfl := Option.some.inj hd; refine ⟨rfl, ?_⟩
                    obtain ⟨_, f0, c0, rfl, n0⟩ := hdep 12 _ _ rfl rfl rfl; obtain ⟨_, f1, c1, rfl, n1⟩ := hdep 13 _ _ rfl rfl rfl; exact G_build (css := [c0, c1]) (xs := [_, _]) WideF.wide rfl ⟨f0, f1, trivial⟩ (.cons n0 (.cons n1 .nil)) rfl rfl rfl hn
                  | succ i =>
                   cases i with
                   | zero =>
                     obtain rfl := Option.some.inj ho; obtain rfl := Option.some.inj hd; refine ⟨rfl, ?_⟩
                     obtain ⟨_, f1, b, rfl, hns⟩ := hdep 14 _ _ rfl rfl rfl; exact Ef_ev WideF.wide (Ev_build (vs := [(_, _), (_, _)]) ⟨rfl, rfl, rfl, f1, trivial⟩ rfl) rfl hn ⟨_, _, rfl, HLe.refl _, _, rfl, NodeH.of (x := lzy x 2) hns⟩
                   | succ i =>
                    cases i with
                    | zero =>
                      obtain rfl := Option.some.inj ho; obtain rfl := Option.some.inj hd; refine ⟨rfl, ?_⟩
                      exact Ef_ev WideF.wide (Ev_loadH (show Env.find e 5 = some _ from hb 5 _ rfl) (hc5.mono hle) rfl) rfl hn ⟨_, _, rfl, HLe.refl _, _, rfl, yes_node _⟩
                    | succ i =>
                     cases i with
                     | zero =>
                       obtain rfl := Option.some.inj ho; obtain rfl := Option.some.inj hd; refine ⟨rfl, ?_⟩
                       exact Ef_ev WideF.wide (Ev_loadH (show Env.find e 2 = some _ from hb 2 _ rfl) (hc2.mono hle) rfl) rfl hn ⟨_, _, rfl, HLe.refl _, _, rfl, hx5.mono hle⟩
                     | succ i =>
                      cases i with
                      | zero =>
                        obtain rfl := Option.some.inj ho; obtain rfl := Option.some.inj hd; refine ⟨rfl, ?_⟩
                        obtain ⟨_, f0, c0, rfl, n0⟩ := hdep 16 _ _ rfl rfl rfl; obtain ⟨_, f1, c1, rfl, n1⟩ := hdep 17 _ _ rfl rfl rfl; exact G_build (css := [c0, c1]) (xs := [_, _]) WideF.wide rfl ⟨f0, f1, trivial⟩ (.cons n0 (.cons n1 .nil)) rfl rfl rfl hn
                      | succ i =>
                       cases i with
                       | zero =>
                         obtain rfl := Option.some.inj ho; obtain rfl := Option.some.inj hd; refine ⟨rfl, ?_⟩
                         obtain ⟨_, f1, b, rfl, hns⟩ := hdep 18 _ _ rfl rfl rfl; exact Ef_ev WideF.wide (Ev_build (vs := [(_, _), (_, _)]) ⟨rfl, rfl, rfl, f1, trivial⟩ rfl) rfl hn ⟨_, _, rfl, HLe.refl _, _, rfl, NodeH.of (x := lzy x 3) hns⟩
                       | succ i =>
                        cases i with
                        | zero =>
                          obtain rfl := Option.some.inj ho; obtain rfl := Option.some.inj hd; refine ⟨rfl, ?_⟩
                          exact Ef_ev WideF.wide (Ev_pure (show Env.find e 7 = some _ from hb 7 _ rfl)) rfl hn ⟨_, _, rfl, HLe.refl _, rfl⟩
                        | succ i =>
                         cases i with
                         | zero =>
                           obtain rfl := Option.some.inj ho; obtain rfl := Option.some.inj hd; refine ⟨rfl, ?_⟩
                           exact Ef_ev WideF.wide (Ev_loadH (show Env.find e 5 = some _ from hb 5 _ rfl) (hc5.mono hle) rfl) rfl hn ⟨_, _, rfl, HLe.refl _, _, rfl, yes_node _⟩
                         | succ i =>
                          cases i with
                          | zero =>
                            obtain rfl := Option.some.inj ho; obtain rfl := Option.some.inj hd; refine ⟨rfl, ?_⟩
                            exact Ef_ev WideF.wide (Ev_loadH (show Env.find e 2 = some _ from hb 2 _ rfl) (hc2.mono hle) rfl) rfl hn ⟨_, _, rfl, HLe.refl _, _, rfl, hx5.mono hle⟩
                          | succ i =>
                           cases i with
                           | zero =>
                             obtain rfl := Option.some.inj ho; obtain rfl := Option.some.inj hd; refine ⟨rfl, ?_⟩
                             exact Ef_ev WideF.wide (Ev_loadH (show Env.find e 6 = some _ from hb 6 _ rfl) (hc6.mono hle) rfl) rfl hn ⟨_, _, rfl, HLe.refl _, _, rfl, no_node _⟩
                           | succ i =>
                            cases i with
                            | zero =>
                              obtain rfl := Option.some.inj ho; obtain rfl := Option.some.inj hd; refine ⟨rfl, ?_⟩
                              obtain ⟨_, f0, c0, rfl, n0⟩ := hdep 21 _ _ rfl rfl rfl; obtain ⟨_, f1, c1, rfl, n1⟩ := hdep 22 _ _ rfl rfl rfl; obtain ⟨_, f2, c2, rfl, n2⟩ := hdep 23 _ _ rfl rfl rfl; exact G_build (css := [c0, c1, c2]) (xs := [_, _, _]) WideF.wide rfl ⟨f0, f1, f2, trivial⟩ (.cons n0 (.cons n1 (.cons n2 .nil))) rfl rfl rfl hn
                            | succ i =>
                             cases i with
                             | zero =>
                               obtain rfl := Option.some.inj ho; obtain rfl := Option.some.inj hd; refine ⟨rfl, ?_⟩
                               obtain ⟨_, f0, rfl⟩ := hdep 20 _ _ rfl rfl rfl; obtain ⟨_, f1, b, rfl, hns⟩ := hdep 24 _ _ rfl rfl rfl; exact Ef_callvp WideF.wide lz_call f0 ⟨f1, trivial⟩ hn ⟨_, _, rfl, HLe.refl _, _, rfl, NodeH.of (x := lzy x 4) hns⟩
                             | succ i =>
                              cases i with
                              | zero =>
                                obtain rfl := Option.some.inj ho; obtain rfl := Option.some.inj hd; refine ⟨rfl, ?_⟩
                                obtain ⟨_, f0, c0, rfl, n0⟩ := hdep 5 _ _ rfl rfl rfl; obtain ⟨_, f1, c1, rfl, n1⟩ := hdep 11 _ _ rfl rfl rfl; obtain ⟨_, f2, c2, rfl, n2⟩ := hdep 15 _ _ rfl rfl rfl; obtain ⟨_, f3, c3, rfl, n3⟩ := hdep 19 _ _ rfl rfl rfl; obtain ⟨_, f4, c4, rfl, n4⟩ := hdep 25 _ _ rfl rfl rfl; exact G_build (css := [c0, c1, c2, c3, c4]) (xs := [_, _, _, _, _]) WideF.wide rfl ⟨f0, f1, f2, f3, f4, trivial⟩ (.cons n0 (.cons n1 (.cons n2 (.cons n3 (.cons n4 .nil))))) rfl rfl rfl hn
                              | succ i =>
                               cases i with
                               | zero =>
                                 obtain rfl := Option.some.inj ho; obtain rfl := Option.some.inj hd; refine ⟨rfl, ?_⟩
                                 obtain ⟨_, f0, p0⟩ := hdep 26 _ _ rfl rfl rfl; exact Ef_ev WideF.wide (Ev_pure (show Env.find e 57 = some _ from f0)) rfl hn ⟨_, _, rfl, HLe.refl _, p0⟩
                               | succ i =>
                                exact absurd ho (by intro h9; cases h9)
  intro e H7 hle7 hb hall
  obtain ⟨_, f8, b8, rfl, hns⟩ := hall 27 _ _ rfl rfl
  clear hall
  refine A_shift (Shift.to (s' := ⟨107, [(1, .slice ea en ec), (2, .pointer (some ⟨b2, 0, none⟩)), (8, .slice (some ⟨b8, 0, none⟩) 5 5)], H7, [], [], []⟩) ?_ ⟨rfl, rfl, rfl, ⟨hb 1 _ rfl, hb 2 _ rfl, f8, trivial⟩, Own.sub_refl _⟩)
  clear f8 hb
  replace hc2 := hc2.mono hle7
  have hle7' := hle6'.trans hle7
  obtain ⟨⟨w, ew⟩, hw⟩ : ∃ p, p = evl env x := ⟨_, rfl⟩
  have kV0 := kV H7 _ x hle7' (hx.mono hle7') (by omega)
  rw [← hw] at kV0
  obtain ⟨wk, wn, wt⟩ := w
  repeat' (first | (refine O_ev WideF.wide rfl (Ev_loadH rfl hc2 rfl) rfl rfl ?_) | (refine O_ef rfl (Ef_call (I := []) WideF.wide kV0 ⟨rfl, rfl, trivial⟩ rfl ?_); rintro v8 H8 I8 hle8 ⟨rfl, rfl⟩) | refine O_nil ?_ | refine A_seq ?_ | refine A_region ?_ | refine A_block ?_ | (show opsA _ _ _ _ _ _ _; first | refine O_ev WideF.wide rfl (Ev_pure rfl) rfl rfl ?_ | (show opsA _ _ _ _ (⟨_, .alloc _, _, _, _, _⟩ :: _) _ _; (refine O_ef rfl (Ef_alloc WideF.wide rfl ?_); intro b)) | (show opsA _ _ _ _ (⟨_, .store _ _ _, _, _, _, _⟩ :: _) _ _; refine O_ef rfl (Ef_storew WideF.wide rfl rfl rfl rfl rfl ?_))))
  refine A_freezeBox (cs := [.int .i64 wk, .int .i64 wn, sv wt]) (by intro u hu; simp at hu; rcases hu with rfl | rfl | rfl <;> rfl) ?_
  intro H9 hle9 hc9
  have hle9' := hle8.trans hle9
  have hns9 := NodesS.mono hle9' hns
  refine A_loopu (fun q s => ∃ (i : Nat) (Hq : Hp), q = 5 - i ∧ i ≤ 5 ∧ HLe H9 Hq ∧ s = ⟨107, [(1, .slice ea en ec), (8, .slice (some ⟨b8, 0, none⟩) 5 5), (9, .pointer (some ⟨b, 0, none⟩)), (10, .int .i64 ew), (11, .int .i64 i)], Hq, [], [], []⟩) ?_ ?_
  · exact Shift.to ⟨_, 0, H9, rfl, by omega, HLe.refl _, rfl⟩ ⟨rfl, rfl, rfl, ⟨rfl, rfl, rfl, rfl, rfl, trivial⟩, Own.sub_nil _⟩
  rintro q s ⟨i, Hq, rfl, hi, hleq, rfl⟩
  have hc9q := hc9.mono hleq
  by_cases hlt : i < 5
  · obtain ⟨bb, bo, rcs, y, hbb, hy, hyc, hyk, hce⟩ := (NodesS.mono hleq hns9).at i hlt
    cases hbb
    obtain ⟨ya, yn, yc, rfl, -⟩ := hyc.cells
    have hyl : y = lzy x i := by
      obtain rfl | rfl | rfl | rfl | rfl : i = 0 ∨ i = 1 ∨ i = 2 ∨ i = 3 ∨ i = 4 := by omega
      all_goals exact (Option.some.inj hy).symm
    have hmy : y.mass < 34359738368 := by rw [hyl]; have := lzy_mass x i; omega
    have kC0 := kC Hq _ y hyc hmy
    have kV1 := fun Hx (hle : HLe Hq Hx) => kV Hx _ y (((hle7'.trans hle9').trans hleq).trans hle) (hyc.mono hle) hmy
    by_cases hch : chkE y = 0
    · rw [hch] at kC0
      have hlz : evl env y = lzW env x i := by rw [hyl]; exact lz_law env x i (by rw [← hyl]; exact hch)
      clear hyl hmy hx5 hs hx hns9 hns
      obtain rfl | rfl | rfl | rfl | rfl : i = 0 ∨ i = 1 ∨ i = 2 ∨ i = 3 ∨ i = 4 := by omega
      · have hev : evl env y = (⟨3, 0, []⟩, 0) := hlz.trans rfl
        simp only [hev] at kV1
        repeat' (first | (show opsA _ _ _ _ (⟨some 73, .load _ _, _, _, _, _⟩ :: _) _ _; refine O_ev WideF.wide rfl (Ev_loadH rfl hce rfl) rfl rfl ?_) | (show opsA _ _ _ _ (⟨some 74, .call _, _, _, _, _⟩ :: _) _ _; refine O_ef rfl (Ef_call (I := []) WideF.wide kC0 ⟨rfl, trivial⟩ rfl ?_); rintro v10 H10 I10 hle10 ⟨rfl, rfl⟩) | (show opsA _ _ _ _ (⟨some 80, .load _ _, _, _, _, _⟩ :: _) _ _; refine O_ev WideF.wide rfl (Ev_loadH rfl (hce.mono hle10) rfl) rfl rfl ?_) | (show opsA _ _ _ _ (⟨some 82, .call _, _, _, _, _⟩ :: _) _ _; refine O_ef rfl (Ef_call (I := []) WideF.wide (kV1 _ hle10) ⟨rfl, rfl, trivial⟩ rfl ?_); rintro v11 H11 I11 hle11 ⟨rfl, rfl⟩) | (refine O_ev WideF.wide rfl (Ev_and rfl rfl) rfl rfl ?_; rw [show iand .i64 ((0 : Nat) : Int) 1 = 0 from by decide]) | (refine O_ev WideF.wide rfl (Ev_neS rfl rfl Tryz.eqGuardType37 (eq_val ⟨3, 0, []⟩ ⟨3, 0, []⟩)) rfl rfl ?_) | refine O_nil ?_ | refine A_seq ?_ | refine A_region ?_ | refine A_skip ?_ | refine A_ret ?_ | refine A_block ?_ | (show opsA _ _ _ _ _ _ _; first | (refine O_split rfl rfl (fun h => ?_) (fun h => ?_) <;> try (exfalso; omega)) | refine O_ev WideF.wide rfl (Ev_pure rfl) rfl rfl ?_ | (show opsA _ _ _ _ (⟨_, .load _ _, _, _, _, _⟩ :: _) _ _; first | refine O_ev WideF.wide rfl (Ev_loadB (i := 0) rfl rfl rfl) rfl rfl ?_ | refine O_ev WideF.wide rfl (Ev_loadB (i := 1) rfl rfl rfl) rfl rfl ?_) | (show opsA _ _ _ _ (⟨_, .indexAddr _ _ _, _, _, _, _⟩ :: _) _ _; refine O_ev WideF.wide rfl (Ev_indexAddr rfl rfl (by omega) (by omega)) rfl rfl ?_) | (show opsA _ _ _ _ (⟨_, .call _, _, _, _, _⟩ :: _) _ _; refine O_ev WideF.wide rfl (Ev_llen rfl) rfl rfl ?_) | (show opsA _ _ _ _ (⟨_, .binOp _ _ _ _ _, _, _, _, _⟩ :: _) _ _; refine O_ev WideF.wide rfl (Ev_add rfl rfl (wi64 (by omega))) rfl rfl ?_) | (show opsA _ _ _ _ (⟨_, .build _ _, _, _, _, _⟩ :: _) _ _; refine O_ev WideF.wide rfl (Ev_build (vs := [(_, _), (_, _)]) ⟨rfl, rfl, rfl, rfl, trivial⟩ rfl) rfl rfl ?_) | (show opsA _ _ _ _ (⟨_, .alloc _, _, _, _, _⟩ :: _) _ _; (refine O_ef rfl (Ef_alloc WideF.wide rfl ?_); intro b)) | (show opsA _ _ _ _ (⟨_, .store _ _ _, _, _, _, _⟩ :: _) _ _; refine O_ef rfl (Ef_storew WideF.wide rfl rfl rfl rfl rfl ?_))) | (show wpA _ _ _ (.cond _ _ _) _ _ _ _; (refine A_if rfl (fun h => ?_) (fun h => ?_) <;> try (exfalso; omega))))
        all_goals first
          | (exfalso; omega)
          | (exfalso; contradiction)
          | (exfalso; exact absurd trivial (by assumption))
          | (exfalso; exact absurd rfl (by assumption))
          | exact Shift.to ⟨_, by omega, 1, H11, rfl, by omega, (hleq.trans hle10).trans hle11, rfl⟩ ⟨rfl, rfl, rfl, ⟨rfl, rfl, rfl, rfl, rfl, trivial⟩, Own.sub_nil _⟩
          | trace_state
      · have hev : evl env y = (⟨3, 1, []⟩, 0) := hlz.trans rfl
        simp only [hev] at kV1
        repeat' (first | (show opsA _ _ _ _ (⟨some 73, .load _ _, _, _, _, _⟩ :: _) _ _; refine O_ev WideF.wide rfl (Ev_loadH rfl hce rfl) rfl rfl ?_) | (show opsA _ _ _ _ (⟨some 74, .call _, _, _, _, _⟩ :: _) _ _; refine O_ef rfl (Ef_call (I := []) WideF.wide kC0 ⟨rfl, trivial⟩ rfl ?_); rintro v10 H10 I10 hle10 ⟨rfl, rfl⟩) | (show opsA _ _ _ _ (⟨some 80, .load _ _, _, _, _, _⟩ :: _) _ _; refine O_ev WideF.wide rfl (Ev_loadH rfl (hce.mono hle10) rfl) rfl rfl ?_) | (show opsA _ _ _ _ (⟨some 82, .call _, _, _, _, _⟩ :: _) _ _; refine O_ef rfl (Ef_call (I := []) WideF.wide (kV1 _ hle10) ⟨rfl, rfl, trivial⟩ rfl ?_); rintro v11 H11 I11 hle11 ⟨rfl, rfl⟩) | (refine O_ev WideF.wide rfl (Ev_and rfl rfl) rfl rfl ?_; rw [show iand .i64 ((1 : Nat) : Int) 1 = 1 from by decide]) | (refine O_ev WideF.wide rfl (Ev_neS rfl rfl Tryz.eqGuardType37 (eq_val ⟨3, 1, []⟩ ⟨3, 1, []⟩)) rfl rfl ?_) | refine O_nil ?_ | refine A_seq ?_ | refine A_region ?_ | refine A_skip ?_ | refine A_ret ?_ | refine A_block ?_ | (show opsA _ _ _ _ _ _ _; first | (refine O_split rfl rfl (fun h => ?_) (fun h => ?_) <;> try (exfalso; omega)) | refine O_ev WideF.wide rfl (Ev_pure rfl) rfl rfl ?_ | (show opsA _ _ _ _ (⟨_, .load _ _, _, _, _, _⟩ :: _) _ _; first | refine O_ev WideF.wide rfl (Ev_loadB (i := 0) rfl rfl rfl) rfl rfl ?_ | refine O_ev WideF.wide rfl (Ev_loadB (i := 1) rfl rfl rfl) rfl rfl ?_) | (show opsA _ _ _ _ (⟨_, .indexAddr _ _ _, _, _, _, _⟩ :: _) _ _; refine O_ev WideF.wide rfl (Ev_indexAddr rfl rfl (by omega) (by omega)) rfl rfl ?_) | (show opsA _ _ _ _ (⟨_, .call _, _, _, _, _⟩ :: _) _ _; refine O_ev WideF.wide rfl (Ev_llen rfl) rfl rfl ?_) | (show opsA _ _ _ _ (⟨_, .binOp _ _ _ _ _, _, _, _, _⟩ :: _) _ _; refine O_ev WideF.wide rfl (Ev_add rfl rfl (wi64 (by omega))) rfl rfl ?_) | (show opsA _ _ _ _ (⟨_, .build _ _, _, _, _, _⟩ :: _) _ _; refine O_ev WideF.wide rfl (Ev_build (vs := [(_, _), (_, _)]) ⟨rfl, rfl, rfl, rfl, trivial⟩ rfl) rfl rfl ?_) | (show opsA _ _ _ _ (⟨_, .alloc _, _, _, _, _⟩ :: _) _ _; (refine O_ef rfl (Ef_alloc WideF.wide rfl ?_); intro b)) | (show opsA _ _ _ _ (⟨_, .store _ _ _, _, _, _, _⟩ :: _) _ _; refine O_ef rfl (Ef_storew WideF.wide rfl rfl rfl rfl rfl ?_))) | (show wpA _ _ _ (.cond _ _ _) _ _ _ _; (refine A_if rfl (fun h => ?_) (fun h => ?_) <;> try (exfalso; omega))))
        all_goals first
          | (exfalso; omega)
          | (exfalso; contradiction)
          | (exfalso; exact absurd trivial (by assumption))
          | (exfalso; exact absurd rfl (by assumption))
          | exact Shift.to ⟨_, by omega, 2, H11, rfl, by omega, (hleq.trans hle10).trans hle11, rfl⟩ ⟨rfl, rfl, rfl, ⟨rfl, rfl, rfl, rfl, rfl, trivial⟩, Own.sub_nil _⟩
          | trace_state
      · have hev : evl env y = (⟨3, 0, []⟩, 0) := hlz.trans rfl
        simp only [hev] at kV1
        repeat' (first | (show opsA _ _ _ _ (⟨some 73, .load _ _, _, _, _, _⟩ :: _) _ _; refine O_ev WideF.wide rfl (Ev_loadH rfl hce rfl) rfl rfl ?_) | (show opsA _ _ _ _ (⟨some 74, .call _, _, _, _, _⟩ :: _) _ _; refine O_ef rfl (Ef_call (I := []) WideF.wide kC0 ⟨rfl, trivial⟩ rfl ?_); rintro v10 H10 I10 hle10 ⟨rfl, rfl⟩) | (show opsA _ _ _ _ (⟨some 80, .load _ _, _, _, _, _⟩ :: _) _ _; refine O_ev WideF.wide rfl (Ev_loadH rfl (hce.mono hle10) rfl) rfl rfl ?_) | (show opsA _ _ _ _ (⟨some 82, .call _, _, _, _, _⟩ :: _) _ _; refine O_ef rfl (Ef_call (I := []) WideF.wide (kV1 _ hle10) ⟨rfl, rfl, trivial⟩ rfl ?_); rintro v11 H11 I11 hle11 ⟨rfl, rfl⟩) | (refine O_ev WideF.wide rfl (Ev_and rfl rfl) rfl rfl ?_; rw [show iand .i64 ((2 : Nat) : Int) 1 = 0 from by decide]) | (refine O_ev WideF.wide rfl (Ev_neS rfl rfl Tryz.eqGuardType37 (eq_val ⟨3, 0, []⟩ ⟨3, 0, []⟩)) rfl rfl ?_) | refine O_nil ?_ | refine A_seq ?_ | refine A_region ?_ | refine A_skip ?_ | refine A_ret ?_ | refine A_block ?_ | (show opsA _ _ _ _ _ _ _; first | (refine O_split rfl rfl (fun h => ?_) (fun h => ?_) <;> try (exfalso; omega)) | refine O_ev WideF.wide rfl (Ev_pure rfl) rfl rfl ?_ | (show opsA _ _ _ _ (⟨_, .load _ _, _, _, _, _⟩ :: _) _ _; first | refine O_ev WideF.wide rfl (Ev_loadB (i := 0) rfl rfl rfl) rfl rfl ?_ | refine O_ev WideF.wide rfl (Ev_loadB (i := 1) rfl rfl rfl) rfl rfl ?_) | (show opsA _ _ _ _ (⟨_, .indexAddr _ _ _, _, _, _, _⟩ :: _) _ _; refine O_ev WideF.wide rfl (Ev_indexAddr rfl rfl (by omega) (by omega)) rfl rfl ?_) | (show opsA _ _ _ _ (⟨_, .fieldAddr _ _ _, _, _, _, _⟩ :: _) _ _; refine O_ev WideF.wide rfl (Ev_fieldAddr rfl rfl rfl) rfl rfl ?_) | (show opsA _ _ _ _ (⟨_, .call _, _, _, _, _⟩ :: _) _ _; refine O_ev WideF.wide rfl (Ev_llen rfl) rfl rfl ?_) | (show opsA _ _ _ _ (⟨_, .binOp _ _ _ _ _, _, _, _, _⟩ :: _) _ _; refine O_ev WideF.wide rfl (Ev_add rfl rfl (wi64 (by omega))) rfl rfl ?_) | (show opsA _ _ _ _ (⟨_, .build _ _, _, _, _, _⟩ :: _) _ _; refine O_ev WideF.wide rfl (Ev_build (vs := [(_, _), (_, _)]) ⟨rfl, rfl, rfl, rfl, trivial⟩ rfl) rfl rfl ?_) | (show opsA _ _ _ _ (⟨_, .alloc _, _, _, _, _⟩ :: _) _ _; (refine O_ef rfl (Ef_alloc WideF.wide rfl ?_); intro b)) | (show opsA _ _ _ _ (⟨_, .store _ _ _, _, _, _, _⟩ :: _) _ _; first | refine O_ef rfl (Ef_storew WideF.wide rfl rfl rfl rfl rfl ?_) | refine O_ef rfl (Ef_store1 WideF.wide rfl rfl rfl rfl rfl ?_))) | (show wpA _ _ _ (.cond _ _ _) _ _ _ _; (refine A_if rfl (fun h => ?_) (fun h => ?_) <;> try (exfalso; omega))))
        all_goals first
          | (exfalso; omega)
          | (exfalso; contradiction)
          | (exfalso; exact absurd trivial (by assumption))
          | (exfalso; exact absurd rfl (by assumption))
          | exact Shift.to ⟨_, by omega, 3, H11, rfl, by omega, (hleq.trans hle10).trans hle11, rfl⟩ ⟨rfl, rfl, rfl, ⟨rfl, rfl, rfl, rfl, rfl, trivial⟩, Own.sub_nil _⟩
          | trace_state
      · have hev : evl env y = (⟨3, 1, []⟩, 0) := hlz.trans rfl
        simp only [hev] at kV1
        repeat' (first | (show opsA _ _ _ _ (⟨some 73, .load _ _, _, _, _, _⟩ :: _) _ _; refine O_ev WideF.wide rfl (Ev_loadH rfl hce rfl) rfl rfl ?_) | (show opsA _ _ _ _ (⟨some 74, .call _, _, _, _, _⟩ :: _) _ _; refine O_ef rfl (Ef_call (I := []) WideF.wide kC0 ⟨rfl, trivial⟩ rfl ?_); rintro v10 H10 I10 hle10 ⟨rfl, rfl⟩) | (show opsA _ _ _ _ (⟨some 80, .load _ _, _, _, _, _⟩ :: _) _ _; refine O_ev WideF.wide rfl (Ev_loadH rfl (hce.mono hle10) rfl) rfl rfl ?_) | (show opsA _ _ _ _ (⟨some 82, .call _, _, _, _, _⟩ :: _) _ _; refine O_ef rfl (Ef_call (I := []) WideF.wide (kV1 _ hle10) ⟨rfl, rfl, trivial⟩ rfl ?_); rintro v11 H11 I11 hle11 ⟨rfl, rfl⟩) | (refine O_ev WideF.wide rfl (Ev_and rfl rfl) rfl rfl ?_; rw [show iand .i64 ((3 : Nat) : Int) 1 = 1 from by decide]) | (refine O_ev WideF.wide rfl (Ev_neS rfl rfl Tryz.eqGuardType37 (eq_val ⟨3, 1, []⟩ ⟨3, 1, []⟩)) rfl rfl ?_) | refine O_nil ?_ | refine A_seq ?_ | refine A_region ?_ | refine A_skip ?_ | refine A_ret ?_ | refine A_block ?_ | (show opsA _ _ _ _ _ _ _; first | (refine O_split rfl rfl (fun h => ?_) (fun h => ?_) <;> try (exfalso; omega)) | refine O_ev WideF.wide rfl (Ev_pure rfl) rfl rfl ?_ | (show opsA _ _ _ _ (⟨_, .load _ _, _, _, _, _⟩ :: _) _ _; first | refine O_ev WideF.wide rfl (Ev_loadB (i := 0) rfl rfl rfl) rfl rfl ?_ | refine O_ev WideF.wide rfl (Ev_loadB (i := 1) rfl rfl rfl) rfl rfl ?_) | (show opsA _ _ _ _ (⟨_, .indexAddr _ _ _, _, _, _, _⟩ :: _) _ _; refine O_ev WideF.wide rfl (Ev_indexAddr rfl rfl (by omega) (by omega)) rfl rfl ?_) | (show opsA _ _ _ _ (⟨_, .fieldAddr _ _ _, _, _, _, _⟩ :: _) _ _; refine O_ev WideF.wide rfl (Ev_fieldAddr rfl rfl rfl) rfl rfl ?_) | (show opsA _ _ _ _ (⟨_, .call _, _, _, _, _⟩ :: _) _ _; refine O_ev WideF.wide rfl (Ev_llen rfl) rfl rfl ?_) | (show opsA _ _ _ _ (⟨_, .binOp _ _ _ _ _, _, _, _, _⟩ :: _) _ _; refine O_ev WideF.wide rfl (Ev_add rfl rfl (wi64 (by omega))) rfl rfl ?_) | (show opsA _ _ _ _ (⟨_, .build _ _, _, _, _, _⟩ :: _) _ _; refine O_ev WideF.wide rfl (Ev_build (vs := [(_, _), (_, _)]) ⟨rfl, rfl, rfl, rfl, trivial⟩ rfl) rfl rfl ?_) | (show opsA _ _ _ _ (⟨_, .alloc _, _, _, _, _⟩ :: _) _ _; (refine O_ef rfl (Ef_alloc WideF.wide rfl ?_); intro b)) | (show opsA _ _ _ _ (⟨_, .store _ _ _, _, _, _, _⟩ :: _) _ _; first | refine O_ef rfl (Ef_storew WideF.wide rfl rfl rfl rfl rfl ?_) | refine O_ef rfl (Ef_store1 WideF.wide rfl rfl rfl rfl rfl ?_))) | (show wpA _ _ _ (.cond _ _ _) _ _ _ _; (refine A_if rfl (fun h => ?_) (fun h => ?_) <;> try (exfalso; omega))))
        all_goals first
          | (exfalso; omega)
          | (exfalso; contradiction)
          | (exfalso; exact absurd trivial (by assumption))
          | (exfalso; exact absurd rfl (by assumption))
          | exact Shift.to ⟨_, by omega, 4, H11, rfl, by omega, (hleq.trans hle10).trans hle11, rfl⟩ ⟨rfl, rfl, rfl, ⟨rfl, rfl, rfl, rfl, rfl, trivial⟩, Own.sub_nil _⟩
          | trace_state
      · have hev : evl env y = (⟨wk, wn, wt⟩, ew) := hlz.trans hw.symm
        simp only [hev] at kV1
        repeat' (first | (show opsA _ _ _ _ (⟨some 73, .load _ _, _, _, _, _⟩ :: _) _ _; refine O_ev WideF.wide rfl (Ev_loadH rfl hce rfl) rfl rfl ?_) | (show opsA _ _ _ _ (⟨some 74, .call _, _, _, _, _⟩ :: _) _ _; refine O_ef rfl (Ef_call (I := []) WideF.wide kC0 ⟨rfl, trivial⟩ rfl ?_); rintro v10 H10 I10 hle10 ⟨rfl, rfl⟩) | (show opsA _ _ _ _ (⟨some 80, .load _ _, _, _, _, _⟩ :: _) _ _; refine O_ev WideF.wide rfl (Ev_loadH rfl (hce.mono hle10) rfl) rfl rfl ?_) | (show opsA _ _ _ _ (⟨some 82, .call _, _, _, _, _⟩ :: _) _ _; refine O_ef rfl (Ef_call (I := []) WideF.wide (kV1 _ hle10) ⟨rfl, rfl, trivial⟩ rfl ?_); rintro v11 H11 I11 hle11 ⟨rfl, rfl⟩) | (refine O_ev WideF.wide rfl (Ev_and rfl rfl) rfl rfl ?_; rw [show iand .i64 ((4 : Nat) : Int) 1 = 0 from by decide]) | (show opsA _ _ _ _ (⟨some 97, .load _ _, _, _, _, _⟩ :: _) _ _; refine O_ev WideF.wide rfl (Ev_loadH rfl ((hc9q.mono hle10).mono hle11) rfl) rfl rfl ?_) | (refine O_ev WideF.wide rfl (Ev_neS rfl rfl Tryz.eqGuardType37 (eq_val ⟨wk, wn, wt⟩ ⟨wk, wn, wt⟩)) rfl rfl ?_) | refine O_nil ?_ | refine A_seq ?_ | refine A_region ?_ | refine A_skip ?_ | refine A_ret ?_ | refine A_block ?_ | (show opsA _ _ _ _ _ _ _; first | (refine O_split rfl rfl (fun h => ?_) (fun h => ?_) <;> try (exfalso; omega)) | refine O_ev WideF.wide rfl (Ev_pure rfl) rfl rfl ?_ | (show opsA _ _ _ _ (⟨_, .load _ _, _, _, _, _⟩ :: _) _ _; first | refine O_ev WideF.wide rfl (Ev_loadB (i := 0) rfl rfl rfl) rfl rfl ?_ | refine O_ev WideF.wide rfl (Ev_loadB (i := 1) rfl rfl rfl) rfl rfl ?_) | (show opsA _ _ _ _ (⟨_, .indexAddr _ _ _, _, _, _, _⟩ :: _) _ _; refine O_ev WideF.wide rfl (Ev_indexAddr rfl rfl (by omega) (by omega)) rfl rfl ?_) | (show opsA _ _ _ _ (⟨_, .call _, _, _, _, _⟩ :: _) _ _; refine O_ev WideF.wide rfl (Ev_llen rfl) rfl rfl ?_) | (show opsA _ _ _ _ (⟨_, .binOp _ _ _ _ _, _, _, _, _⟩ :: _) _ _; refine O_ev WideF.wide rfl (Ev_add rfl rfl (wi64 (by omega))) rfl rfl ?_) | (show opsA _ _ _ _ (⟨_, .build _ _, _, _, _, _⟩ :: _) _ _; refine O_ev WideF.wide rfl (Ev_build (vs := [(_, _), (_, _)]) ⟨rfl, rfl, rfl, rfl, trivial⟩ rfl) rfl rfl ?_) | (show opsA _ _ _ _ (⟨_, .alloc _, _, _, _, _⟩ :: _) _ _; (refine O_ef rfl (Ef_alloc WideF.wide rfl ?_); intro b)) | (show opsA _ _ _ _ (⟨_, .store _ _ _, _, _, _, _⟩ :: _) _ _; refine O_ef rfl (Ef_storew WideF.wide rfl rfl rfl rfl rfl ?_))) | (show wpA _ _ _ (.cond _ _ _) _ _ _ _; (refine A_if rfl (fun h => ?_) (fun h => ?_) <;> try (exfalso; omega))))
        all_goals first
          | (exfalso; omega)
          | (exfalso; contradiction)
          | (exfalso; exact absurd trivial (by assumption))
          | (exfalso; exact absurd rfl (by assumption))
          | exact Shift.to ⟨_, by omega, 5, H11, rfl, by omega, (hleq.trans hle10).trans hle11, rfl⟩ ⟨rfl, rfl, rfl, ⟨rfl, rfl, rfl, rfl, rfl, trivial⟩, Own.sub_nil _⟩
          | trace_state
    · repeat' (first | (show opsA _ _ _ _ (⟨some 73, .load _ _, _, _, _, _⟩ :: _) _ _; refine O_ev WideF.wide rfl (Ev_loadH rfl hce rfl) rfl rfl ?_) | (show opsA _ _ _ _ (⟨some 74, .call _, _, _, _, _⟩ :: _) _ _; refine O_ef rfl (Ef_call (I := []) WideF.wide kC0 ⟨rfl, trivial⟩ rfl ?_); rintro v10 H10 I10 hle10 ⟨rfl, rfl⟩) | refine O_nil ?_ | refine A_seq ?_ | refine A_region ?_ | refine A_skip ?_ | refine A_ret ?_ | refine A_block ?_ | (show opsA _ _ _ _ _ _ _; first | refine O_ev WideF.wide rfl (Ev_pure rfl) rfl rfl ?_ | (show opsA _ _ _ _ (⟨_, .indexAddr _ _ _, _, _, _, _⟩ :: _) _ _; refine O_ev WideF.wide rfl (Ev_indexAddr rfl rfl (by omega) (by omega)) rfl rfl ?_) | (show opsA _ _ _ _ (⟨_, .call _, _, _, _, _⟩ :: _) _ _; refine O_ev WideF.wide rfl (Ev_llen rfl) rfl rfl ?_)) | (show wpA _ _ _ (.cond _ _ _) _ _ _ _; (refine A_if rfl (fun h => ?_) (fun h => ?_) <;> try (exfalso; omega))))
      all_goals first
        | (exfalso; omega)
        | (exfalso; contradiction)
        | (exfalso; exact absurd trivial (by assumption))
        | (exfalso; exact absurd rfl (by assumption))
        | exact End_e (Ret1 rfl rfl) ⟨rfl, rfl⟩
        | trace_state
  · obtain rfl : i = 5 := by omega
    repeat' (first | refine O_nil ?_ | refine A_seq ?_ | refine A_region ?_ | refine A_ret ?_ | (show opsA _ _ _ _ _ _ _; first | refine O_ev WideF.wide rfl (Ev_pure rfl) rfl rfl ?_ | (show opsA _ _ _ _ (⟨_, .call _, _, _, _, _⟩ :: _) _ _; refine O_ev WideF.wide rfl (Ev_llen rfl) rfl rfl ?_)) | (show wpA _ _ _ (.exit _) _ _ _ _; refine A_exit rfl ?_) | (show wpA _ _ _ (.cond _ _ _) _ _ _ _; (refine A_if rfl (fun h => ?_) (fun h => ?_) <;> try (exfalso; omega))))
    all_goals first
      | (exfalso; omega)
      | (exfalso; contradiction)
      | (exfalso; exact absurd trivial (by assumption))
      | (exfalso; exact absurd rfl (by assumption))
      | exact End_e (Ret1 rfl rfl) ⟨rfl, rfl⟩
      | trace_state

end Go.Proofs.YtnoadopmeoohmaaGreatDoor
