import Derived.Test.YtnoadopmeoohmaaGreatDoorZ24
import Derived.Test.YtnoadopmeoohmaaGreatDoorZ20
/-
  eval. Printed by genF25.py.
  eval by induction, Eval. Printed by genF26.py.
-/
namespace Go.Proofs.YtnoadopmeoohmaaGreatDoor
open Go
set_option linter.unusedVariables false
set_option linter.unusedSimpArgs false
section
theorem find_first {α : Type} {l : List α} {p : α → Bool} {i : Nat} {x : α} (hi : l[i]? = some x) (hp : p x = true) (hno : ∀ (j : Nat) (y : α), j < i → l[j]? = some y → p y = false) : l.find? p = some x := by
  induction l generalizing i with
  | nil => simp at hi
  | cons z l ih =>
    cases i with
    | zero =>
      simp at hi
      subst hi
      rw [List.find?_cons, hp]
    | succ i =>
      have hz := hno 0 z (by omega) rfl
      rw [List.find?_cons, hz]
      exact ih (by simpa using hi) (fun j y hj hy => hno (j + 1) y (by omega) (by simpa using hy))
theorem FunsH.call {H : Hp} {kvs : List (List UInt8 × Value)} (h : FunsH H kvs) {s : List UInt8} {lo hi : Int} (hf : fnArg s = some (lo, hi)) (hs : ¬ s = ifS) : ∃ fv, sget zFn kvs s = .agg [.int .i64 lo, .int .i64 hi, fv].toArray ∧ CallsAs H fv s := by
  rcases h s with h1 | ⟨lo', hi', fv, h1, h2, h3, h4, h5⟩
  · rw [h1.1] at hf; cases hf
  · rw [h1] at hf; cases hf; exact ⟨fv, h3, h4 hs⟩
theorem fnArg_lo {s : List UInt8} {lo hi : Int} (h : fnArg s = some (lo, hi)) : (s = [115, 117, 109] ∨ 1 ≤ lo) ∧ hi ≤ 256 ∧ (s = ifS → lo = 3 ∧ hi = 3) := by
  unfold fnArg at h
  repeat' split at h
  all_goals first | (cases h; done) | skip
  all_goals
    cases h
    refine ⟨by first | (right; omega) | (left; assumption), by omega, fun h9 => ?_⟩
    subst h9
    first | exact ⟨rfl, rfl⟩ | (exfalso; rename_i hh; exact absurd hh (by decide))
attribute [local irreducible] wpA opsA drJ drQ drE Ef Ev Shift Fn
set_option maxRecDepth 100000 in
set_option maxHeartbeats 16000000 in
theorem eval_1 {H : Hp} {num : Int} {text : List UInt8} {a : Option Addr} {n cp : Nat} {args : List Nd} {ea : Option Addr} {en ec : Nat} {env : List Bnd} (hs : NodesS H a n cp args) (ke : ∀ y ∈ args, EvN ea en ec env H y) :
    Fn Tryz.prog 54 [.agg [.int .i64 1, .int .i64 num, sv text, .slice a n cp].toArray, .slice ea en ec] H [] fun v _ I => v = rVE (evT env 1 num text (args.map (evE env))) ∧ I = [] := by
  rw [show evT env 1 num text (args.map (evE env)) = (⟨1, num, []⟩, 0) by unfold evT; rw [if_pos (by decide)]]
  refine Fn_of _ _ Tryz.func54 rfl Tryz.ntmps54 rfl fun c => ?_
  repeat' (first | (refine O_ef rfl (Ef_boxa WideF.wide (cs := [.int .i64 1, .int .i64 num, sv text, .slice _ _ _]) rfl rfl ?_); intro b9; refine O_freezeBox (by intro u hu; simp at hu; rcases hu with rfl | rfl | rfl | rfl <;> rfl) ?_; intro H1 hle1 hc) | refine O_nil ?_ | refine A_seq ?_ | refine A_region ?_ | refine A_skip ?_ | refine A_ret ?_ | refine A_block ?_ | (show opsA _ _ _ _ _ _ _; first | refine O_ev WideF.wide rfl (Ev_pure rfl) rfl rfl ?_ | (show opsA _ _ _ _ (⟨_, .load _ _, _, _, _, _⟩ :: _) _ _; first | refine O_ev WideF.wide rfl (Ev_loadH1 rfl (hc 0 _ rfl)) rfl rfl ?_ | refine O_ev WideF.wide rfl (Ev_loadH1 rfl (hc 1 _ rfl)) rfl rfl ?_) | (show opsA _ _ _ _ (⟨_, .fieldAddr _ _ _, _, _, _, _⟩ :: _) _ _; refine O_ev WideF.wide rfl (Ev_fieldAddr rfl rfl rfl) rfl rfl ?_) | (show opsA _ _ _ _ (⟨_, .build _ _, _, _, _, _⟩ :: _) _ _; refine O_ev WideF.wide rfl (Ev_build (vs := [(_, _), (_, _)]) ⟨rfl, rfl, rfl, rfl, trivial⟩ rfl) rfl rfl ?_) | (show opsA _ _ _ _ (⟨_, .alloc _, _, _, _, _⟩ :: _) _ _; (refine O_ef rfl (Ef_alloc WideF.wide rfl ?_); intro b)) | (show opsA _ _ _ _ (⟨_, .store _ _ _, _, _, _, _⟩ :: _) _ _; refine O_ef rfl (Ef_storew WideF.wide rfl rfl rfl rfl rfl ?_))) | (show wpA _ _ _ (.cond _ _ _) _ _ _ _; (refine A_if rfl (fun h => ?_) (fun h => ?_) <;> try (exfalso; omega))))
  all_goals first
    | (exfalso; omega)
    | (exfalso; contradiction)
    | (exfalso; exact absurd trivial (by assumption))
    | (exfalso; exact absurd rfl (by assumption))
    | exact End_e (RetC2 (i := 0) rfl rfl rfl rfl rfl) ⟨rfl, rfl⟩
    | trace_state
set_option maxRecDepth 100000 in
set_option maxHeartbeats 16000000 in
theorem eval_3 {H : Hp} {num : Int} {text : List UInt8} {a : Option Addr} {n cp : Nat} {args : List Nd} {ea : Option Addr} {en ec : Nat} {env : List Bnd} (hs : NodesS H a n cp args) (ke : ∀ y ∈ args, EvN ea en ec env H y) :
    Fn Tryz.prog 54 [.agg [.int .i64 3, .int .i64 num, sv text, .slice a n cp].toArray, .slice ea en ec] H [] fun v _ I => v = rVE (evT env 3 num text (args.map (evE env))) ∧ I = [] := by
  rw [show evT env 3 num text (args.map (evE env)) = (⟨3, num, []⟩, 0) by unfold evT; rw [if_pos (by decide)]]
  refine Fn_of _ _ Tryz.func54 rfl Tryz.ntmps54 rfl fun c => ?_
  repeat' (first | (refine O_ef rfl (Ef_boxa WideF.wide (cs := [.int .i64 3, .int .i64 num, sv text, .slice _ _ _]) rfl rfl ?_); intro b9; refine O_freezeBox (by intro u hu; simp at hu; rcases hu with rfl | rfl | rfl | rfl <;> rfl) ?_; intro H1 hle1 hc) | refine O_nil ?_ | refine A_seq ?_ | refine A_region ?_ | refine A_ret ?_ | refine A_block ?_ | (show opsA _ _ _ _ _ _ _; first | refine O_ev WideF.wide rfl (Ev_pure rfl) rfl rfl ?_ | (show opsA _ _ _ _ (⟨_, .load _ _, _, _, _, _⟩ :: _) _ _; first | refine O_ev WideF.wide rfl (Ev_loadH1 rfl (hc 0 _ rfl)) rfl rfl ?_ | refine O_ev WideF.wide rfl (Ev_loadH1 rfl (hc 1 _ rfl)) rfl rfl ?_) | (show opsA _ _ _ _ (⟨_, .fieldAddr _ _ _, _, _, _, _⟩ :: _) _ _; refine O_ev WideF.wide rfl (Ev_fieldAddr rfl rfl rfl) rfl rfl ?_) | (show opsA _ _ _ _ (⟨_, .build _ _, _, _, _, _⟩ :: _) _ _; refine O_ev WideF.wide rfl (Ev_build (vs := [(_, _), (_, _)]) ⟨rfl, rfl, rfl, rfl, trivial⟩ rfl) rfl rfl ?_) | (show opsA _ _ _ _ (⟨_, .alloc _, _, _, _, _⟩ :: _) _ _; (refine O_ef rfl (Ef_alloc WideF.wide rfl ?_); intro b)) | (show opsA _ _ _ _ (⟨_, .store _ _ _, _, _, _, _⟩ :: _) _ _; refine O_ef rfl (Ef_storew WideF.wide rfl rfl rfl rfl rfl ?_))) | (show wpA _ _ _ (.cond _ _ _) _ _ _ _; (refine A_if rfl (fun h => ?_) (fun h => ?_) <;> try (exfalso; omega))))
  all_goals first
    | (exfalso; omega)
    | (exfalso; contradiction)
    | (exfalso; exact absurd trivial (by assumption))
    | (exfalso; exact absurd rfl (by assumption))
    | exact End_e (RetC2 (i := 0) rfl rfl rfl rfl rfl) ⟨rfl, rfl⟩
    | trace_state
set_option maxRecDepth 100000 in
set_option maxHeartbeats 16000000 in
theorem eval_2 {H : Hp} {num : Int} {text : List UInt8} {a : Option Addr} {n cp : Nat} {args : List Nd} {ea : Option Addr} {en ec : Nat} {env : List Bnd} (hs : NodesS H a n cp args) (ke : ∀ y ∈ args, EvN ea en ec env H y) :
    Fn Tryz.prog 54 [.agg [.int .i64 2, .int .i64 num, sv text, .slice a n cp].toArray, .slice ea en ec] H [] fun v _ I => v = rVE (evT env 2 num text (args.map (evE env))) ∧ I = [] := by
  rw [show evT env 2 num text (args.map (evE env)) = (txtV text, 0) by unfold evT; rw [if_neg (by decide), if_pos rfl]]
  refine Fn_of _ _ Tryz.func54 rfl Tryz.ntmps54 rfl fun c => ?_
  repeat' (first | (refine O_ef rfl (Ef_boxa WideF.wide (cs := [.int .i64 2, .int .i64 num, sv text, .slice _ _ _]) rfl rfl ?_); intro b9; refine O_freezeBox (by intro u hu; simp at hu; rcases hu with rfl | rfl | rfl | rfl <;> rfl) ?_; intro H1 hle1 hc) | (show opsA _ _ _ _ (⟨some 23, .call _, _, _, _, _⟩ :: _) _ _; refine O_ef rfl (Ef_call (I := []) WideF.wide (text_fn (s := text)) ⟨rfl, trivial⟩ rfl ?_); rintro v23 H23 I23 hl23 ⟨rfl, rfl⟩) | refine O_nil ?_ | refine A_seq ?_ | refine A_region ?_ | refine A_ret ?_ | refine A_block ?_ | (show opsA _ _ _ _ _ _ _; first | refine O_ev WideF.wide rfl (Ev_pure rfl) rfl rfl ?_ | (show opsA _ _ _ _ (⟨_, .load _ _, _, _, _, _⟩ :: _) _ _; first | refine O_ev WideF.wide rfl (Ev_loadH1 rfl (hc 0 _ rfl)) rfl rfl ?_ | refine O_ev WideF.wide rfl (Ev_loadH1 rfl (hc 2 _ rfl)) rfl rfl ?_) | (show opsA _ _ _ _ (⟨_, .fieldAddr _ _ _, _, _, _, _⟩ :: _) _ _; refine O_ev WideF.wide rfl (Ev_fieldAddr rfl rfl rfl) rfl rfl ?_) | (show opsA _ _ _ _ (⟨_, .alloc _, _, _, _, _⟩ :: _) _ _; (refine O_ef rfl (Ef_alloc WideF.wide rfl ?_); intro b)) | (show opsA _ _ _ _ (⟨_, .store _ _ _, _, _, _, _⟩ :: _) _ _; refine O_ef rfl (Ef_storew WideF.wide rfl rfl rfl rfl rfl ?_))) | (show wpA _ _ _ (.cond _ _ _) _ _ _ _; (refine A_if rfl (fun h => ?_) (fun h => ?_) <;> try (exfalso; omega))))
  all_goals first
    | (exfalso; omega)
    | (exfalso; contradiction)
    | (exfalso; exact absurd trivial (by assumption))
    | (exfalso; exact absurd rfl (by assumption))
    | exact End_e (RetC2 (i := 0) rfl rfl rfl rfl rfl) ⟨rfl, rfl⟩
    | trace_state
set_option maxRecDepth 100000 in
theorem eval1_fn {H : Hp} {x : Bnd} {b : Nat} {s : List UInt8} (hb : H b 2 = some (sv s)) : FnP Tryz.prog 94 [.agg (bdrow x).toArray, .pointer (some ⟨b, 0, none⟩)] H (.bool (decide (x.name = s))) := by
  obtain ⟨nm, ⟨k, m, t⟩⟩ := x
  show FnP Tryz.prog 94 [.agg [sv nm, .int .i64 k, .int .i64 m, sv t].toArray, .pointer (some ⟨b, 0, none⟩)] H (.bool (decide (nm = s)))
  refine Fn_of _ _ Tryz.func94 rfl Tryz.ntmps94 rfl fun c => ?_
  repeat' (first | (refine O_ef rfl (Ef_boxa WideF.wide (cs := [sv nm, .int .i64 k, .int .i64 m, sv t]) rfl rfl ?_); intro b1) | (refine O_ev WideF.wide rfl (Ev_loadH1 rfl hb) rfl rfl ?_) | refine O_nil ?_ | refine A_seq ?_ | refine A_region ?_ | refine A_ret ?_ | (show opsA _ _ _ _ _ _ _; first | refine O_ev WideF.wide rfl (Ev_pure rfl) rfl rfl ?_ | (show opsA _ _ _ _ (⟨_, .load _ _, _, _, _, _⟩ :: _) _ _; refine O_ev WideF.wide rfl (Ev_loadB1 (i := 0) rfl rfl rfl) rfl rfl ?_) | (show opsA _ _ _ _ (⟨_, .fieldAddr _ _ _, _, _, _, _⟩ :: _) _ _; refine O_ev WideF.wide rfl (Ev_fieldAddr rfl rfl rfl) rfl rfl ?_) | (show opsA _ _ _ _ (⟨_, .binOp _ _ _ _ _, _, _, _, _⟩ :: _) _ _; refine O_ev WideF.wide rfl (Ev_seql rfl rfl) rfl rfl ?_)))
  exact End_p (Ret1 rfl rfl) rfl
set_option maxRecDepth 100000 in
set_option maxHeartbeats 16000000 in
theorem eval_4 {H : Hp} {num : Int} {text : List UInt8} {a : Option Addr} {n cp : Nat} {args : List Nd} {ea : Option Addr} {en ec : Nat} {env : List Bnd} (hs : NodesS H a n cp args) (ke : ∀ y ∈ args, EvN ea en ec env H y) (henv : HRow H ea en ec 4 (env.map bdrow)) (hen : en < 4611686018427387904) :
    Fn Tryz.prog 54 [.agg [.int .i64 4, .int .i64 num, sv text, .slice a n cp].toArray, .slice ea en ec] H [] fun v _ I => v = rVE (evT env 4 num text (args.map (evE env))) ∧ I = [] := by
  have hlen : env.length = en := by have := henv.len; simpa using this
  rw [show evT env 4 num text (args.map (evE env)) = (match env.find? (fun b => decide (b.name = text)) with | none => (zV, 30) | some b => (b.val, 0)) by unfold evT; rw [if_neg (by decide), if_neg (by decide), if_pos rfl]; cases List.find? (fun b => decide (b.name = text)) env <;> rfl]
  refine Fn_of _ _ Tryz.func54 rfl Tryz.ntmps54 rfl fun c => ?_
  repeat' (first | (refine O_ef rfl (Ef_boxa WideF.wide (cs := [.int .i64 4, .int .i64 num, sv text, .slice _ _ _]) rfl rfl ?_); intro b9; refine O_freezeBox (by intro u hu; simp at hu; rcases hu with rfl | rfl | rfl | rfl <;> rfl) ?_; intro H1 hle1 hc) | (refine O_ev WideF.wide rfl (Ev_makeFunc (xs := []) (ys := [_]) (vs := []) (us := [_]) rfl rfl) rfl rfl ?_) | (show opsA _ _ _ _ (⟨some 28, .call _, _, _, _, _⟩ :: _) _ _; refine O_ef rfl (Ef_call (I := []) WideF.wide (IndexB_fn (f := 94) (caps := [.pointer (some ⟨b9, 0, none⟩)]) (pr := fun b => decide (b.name = text)) (henv.mono hle1) hen (fun x _ => eval1_fn (hc 2 _ rfl))) ⟨rfl, rfl, trivial⟩ rfl ?_); rintro v3 H3 I3 hl3 ⟨⟨k3, rfl, hk3⟩, rfl, rfl⟩; rcases hk3 with ⟨rfl, hno⟩ | ⟨i, x, rfl, hi, hp, hno⟩) | (show opsA _ _ _ _ (⟨some 32, .move _, _, _, _, _⟩ :: _) _ _; obtain ⟨eb, eo, x', rfl, hx', hce⟩ := henv.atm i (by have := (List.getElem?_eq_some_iff.1 hi).1; omega); have hfi := (List.getElem?_eq_some_iff.1 hi).1; refine O_ev WideF.wide rfl (Ev_pure rfl) rfl rfl ?_) | (refine O_ev WideF.wide rfl (Ev_loadH rfl ((hce.sub 1 3).mono hle1) rfl) rfl rfl ?_) | refine O_nil ?_ | refine A_seq ?_ | refine A_region ?_ | refine A_skip ?_ | refine A_ret ?_ | refine A_block ?_ | (show opsA _ _ _ _ _ _ _; first | refine O_ev WideF.wide rfl (Ev_pure rfl) rfl rfl ?_ | (show opsA _ _ _ _ (⟨_, .load _ _, _, _, _, _⟩ :: _) _ _; refine O_ev WideF.wide rfl (Ev_loadH1 rfl (hc 0 _ rfl)) rfl rfl ?_) | (show opsA _ _ _ _ (⟨_, .indexAddr _ _ _, _, _, _, _⟩ :: _) _ _; refine O_ev WideF.wide rfl (Ev_indexAddr rfl rfl (by omega) (by omega)) rfl rfl ?_) | (show opsA _ _ _ _ (⟨_, .fieldAddr _ _ _, _, _, _, _⟩ :: _) _ _; refine O_ev WideF.wide rfl (Ev_fieldAddr rfl rfl rfl) rfl rfl ?_) | (show opsA _ _ _ _ (⟨_, .build _ _, _, _, _, _⟩ :: _) _ _; refine O_ev WideF.wide rfl (Ev_build (vs := []) trivial rfl) rfl rfl ?_) | (show opsA _ _ _ _ (⟨_, .alloc _, _, _, _, _⟩ :: _) _ _; (refine O_ef rfl (Ef_alloc WideF.wide rfl ?_); intro b)) | (show opsA _ _ _ _ (⟨_, .store _ _ _, _, _, _, _⟩ :: _) _ _; refine O_ef rfl (Ef_storew WideF.wide rfl rfl rfl rfl rfl ?_))) | (show wpA _ _ _ (.cond _ _ _) _ _ _ _; (refine A_if rfl (fun h => ?_) (fun h => ?_) <;> try (exfalso; omega))))
  all_goals first
    | (exfalso; omega)
    | (exfalso; contradiction)
    | (exfalso; exact absurd trivial (by assumption))
    | (exfalso; exact absurd rfl (by assumption))
    | (rw [List.find?_eq_none.2 (fun x hx => by simpa using hno x hx)]; exact End_e (RetC2 (i := 0) rfl rfl rfl rfl rfl) ⟨rfl, rfl⟩)
    | (rw [find_first hi hp hno]; rw [hi] at hx'; cases hx'; exact End_e (RetC2 (i := 0) rfl rfl rfl rfl rfl) ⟨rfl, rfl⟩)
    | trace_state
set_option maxRecDepth 100000 in
set_option maxHeartbeats 16000000 in
theorem eval_6 {H : Hp} {num : Int} {text : List UInt8} {a : Option Addr} {cp : Nat} {y0 y1 : Nd} {ea : Option Addr} {en ec : Nat} {env : List Bnd} (hs : NodesS H a 2 cp [y0, y1]) (k0 : EvN ea en ec env H y0) (k1 : EvN ea en ec env H y1) :
    Fn Tryz.prog 54 [.agg [.int .i64 6, .int .i64 num, sv text, .slice a 2 cp].toArray, .slice ea en ec] H [] fun v _ I => v = rVE (evT env 6 num text ([y0, y1].map (evE env))) ∧ I = [] := by
  rw [show evT env 6 num text ([y0, y1].map (evE env)) = lzyV 6 [evE env y0, evE env y1] by unfold evT; rw [if_neg (by decide), if_neg (by decide), if_neg (by decide), if_pos (.inl rfl)]; rfl]
  have kz := fun Hx (hle : HLe H Hx) => lazy6_fn (num := num) (text := text) (hs.mono hle) (k0.mono hle) (k1.mono hle)
  refine Fn_of _ _ Tryz.func54 rfl Tryz.ntmps54 rfl fun c => ?_
  repeat' (first | (refine O_ef rfl (Ef_boxa WideF.wide (cs := [.int .i64 6, .int .i64 num, sv text, .slice _ _ _]) rfl rfl ?_); intro b9; refine O_freezeBox (by intro u hu; simp at hu; rcases hu with rfl | rfl | rfl | rfl <;> rfl) ?_; intro H1 hle1 hc) | (refine O_ev WideF.wide rfl (Ev_loadH rfl hc rfl) rfl rfl ?_) | (show opsA _ _ _ _ (⟨some 57, .call _, _, _, _, _⟩ :: _) _ _; refine O_ef rfl (Ef_call (I := []) WideF.wide (kz _ hle1) ⟨rfl, rfl, trivial⟩ rfl ?_); rintro v57 H57 I57 hl57 ⟨rfl, rfl⟩) | refine O_nil ?_ | refine A_seq ?_ | refine A_region ?_ | refine A_skip ?_ | refine A_ret ?_ | refine A_block ?_ | (show opsA _ _ _ _ _ _ _; first | (refine O_split rfl rfl (fun h => ?_) (fun h => ?_) <;> try (exfalso; omega)) | refine O_ev WideF.wide rfl (Ev_pure rfl) rfl rfl ?_ | (show opsA _ _ _ _ (⟨_, .load _ _, _, _, _, _⟩ :: _) _ _; refine O_ev WideF.wide rfl (Ev_loadH1 rfl (hc 0 _ rfl)) rfl rfl ?_) | (show opsA _ _ _ _ (⟨_, .fieldAddr _ _ _, _, _, _, _⟩ :: _) _ _; refine O_ev WideF.wide rfl (Ev_fieldAddr rfl rfl rfl) rfl rfl ?_) | (show opsA _ _ _ _ (⟨_, .alloc _, _, _, _, _⟩ :: _) _ _; (refine O_ef rfl (Ef_alloc WideF.wide rfl ?_); intro b)) | (show opsA _ _ _ _ (⟨_, .store _ _ _, _, _, _, _⟩ :: _) _ _; refine O_ef rfl (Ef_storew WideF.wide rfl rfl rfl rfl rfl ?_)) | refine O_skip WideF.wide rfl rfl rfl ?_) | (show wpA _ _ _ (.cond _ _ _) _ _ _ _; first | (refine A_if rfl (fun h => ?_) (fun h => ?_) <;> try (exfalso; omega)) | refine A_iftrue rfl ?_))
  all_goals first
    | (exfalso; omega)
    | (exfalso; contradiction)
    | (exfalso; exact absurd trivial (by assumption))
    | (exfalso; exact absurd rfl (by assumption))
    | exact End_e (RetC2 (i := 0) rfl rfl rfl rfl rfl) ⟨rfl, rfl⟩
    | trace_state
set_option maxRecDepth 100000 in
set_option maxHeartbeats 16000000 in
theorem eval_7 {H : Hp} {num : Int} {text : List UInt8} {a : Option Addr} {cp : Nat} {y0 y1 : Nd} {ea : Option Addr} {en ec : Nat} {env : List Bnd} (hs : NodesS H a 2 cp [y0, y1]) (k0 : EvN ea en ec env H y0) (k1 : EvN ea en ec env H y1) :
    Fn Tryz.prog 54 [.agg [.int .i64 7, .int .i64 num, sv text, .slice a 2 cp].toArray, .slice ea en ec] H [] fun v _ I => v = rVE (evT env 7 num text ([y0, y1].map (evE env))) ∧ I = [] := by
  rw [show evT env 7 num text ([y0, y1].map (evE env)) = lzyV 7 [evE env y0, evE env y1] by unfold evT; rw [if_neg (by decide), if_neg (by decide), if_neg (by decide), if_pos (.inr (.inl rfl))]; rfl]
  have kz := fun Hx (hle : HLe H Hx) => lazy7_fn (num := num) (text := text) (hs.mono hle) (k0.mono hle) (k1.mono hle)
  refine Fn_of _ _ Tryz.func54 rfl Tryz.ntmps54 rfl fun c => ?_
  repeat' (first | (refine O_ef rfl (Ef_boxa WideF.wide (cs := [.int .i64 7, .int .i64 num, sv text, .slice _ _ _]) rfl rfl ?_); intro b9; refine O_freezeBox (by intro u hu; simp at hu; rcases hu with rfl | rfl | rfl | rfl <;> rfl) ?_; intro H1 hle1 hc) | (refine O_ev WideF.wide rfl (Ev_loadH rfl hc rfl) rfl rfl ?_) | (show opsA _ _ _ _ (⟨some 57, .call _, _, _, _, _⟩ :: _) _ _; refine O_ef rfl (Ef_call (I := []) WideF.wide (kz _ hle1) ⟨rfl, rfl, trivial⟩ rfl ?_); rintro v57 H57 I57 hl57 ⟨rfl, rfl⟩) | refine O_nil ?_ | refine A_seq ?_ | refine A_region ?_ | refine A_skip ?_ | refine A_ret ?_ | refine A_block ?_ | (show opsA _ _ _ _ _ _ _; first | (refine O_split rfl rfl (fun h => ?_) (fun h => ?_) <;> try (exfalso; omega)) | refine O_ev WideF.wide rfl (Ev_pure rfl) rfl rfl ?_ | (show opsA _ _ _ _ (⟨_, .load _ _, _, _, _, _⟩ :: _) _ _; refine O_ev WideF.wide rfl (Ev_loadH1 rfl (hc 0 _ rfl)) rfl rfl ?_) | (show opsA _ _ _ _ (⟨_, .fieldAddr _ _ _, _, _, _, _⟩ :: _) _ _; refine O_ev WideF.wide rfl (Ev_fieldAddr rfl rfl rfl) rfl rfl ?_) | (show opsA _ _ _ _ (⟨_, .alloc _, _, _, _, _⟩ :: _) _ _; (refine O_ef rfl (Ef_alloc WideF.wide rfl ?_); intro b)) | (show opsA _ _ _ _ (⟨_, .store _ _ _, _, _, _, _⟩ :: _) _ _; refine O_ef rfl (Ef_storew WideF.wide rfl rfl rfl rfl rfl ?_)) | refine O_skip WideF.wide rfl rfl rfl ?_) | (show wpA _ _ _ (.cond _ _ _) _ _ _ _; first | (refine A_if rfl (fun h => ?_) (fun h => ?_) <;> try (exfalso; omega)) | refine A_iftrue rfl ?_))
  all_goals first
    | (exfalso; omega)
    | (exfalso; contradiction)
    | (exfalso; exact absurd trivial (by assumption))
    | (exfalso; exact absurd rfl (by assumption))
    | exact End_e (RetC2 (i := 0) rfl rfl rfl rfl rfl) ⟨rfl, rfl⟩
    | trace_state
set_option maxRecDepth 100000 in
set_option maxHeartbeats 16000000 in
theorem eval_if {H : Hp} {num : Int} {a : Option Addr} {cp : Nat} {y0 y1 y2 : Nd} {ea : Option Addr} {en ec : Nat} {env : List Bnd} (hs : NodesS H a 3 cp [y0, y1, y2]) (k0 : EvN ea en ec env H y0) (k1 : EvN ea en ec env H y1) (k2 : EvN ea en ec env H y2) :
    Fn Tryz.prog 54 [.agg [.int .i64 5, .int .i64 num, sv ifS, .slice a 3 cp].toArray, .slice ea en ec] H [] fun v _ I => v = rVE (evT env 5 num ifS ([y0, y1, y2].map (evE env))) ∧ I = [] := by
  rw [show evT env 5 num ifS ([y0, y1, y2].map (evE env)) = lzyV 5 [evE env y0, evE env y1, evE env y2] by unfold evT; rw [if_neg (by decide), if_neg (by decide), if_neg (by decide), if_pos (.inr (.inr ⟨rfl, rfl⟩))]; rfl]
  have kz := fun Hx (hle : HLe H Hx) => lazyIf_fn (num := num) (text := ifS) (hs.mono hle) (k0.mono hle) (k1.mono hle) (k2.mono hle)
  refine Fn_of _ _ Tryz.func54 rfl Tryz.ntmps54 rfl fun c => ?_
  repeat' (first | (refine O_ef rfl (Ef_boxa WideF.wide (cs := [.int .i64 5, .int .i64 num, sv ifS, .slice _ _ _]) rfl rfl ?_); intro b9; refine O_freezeBox (by intro u hu; simp at hu; rcases hu with rfl | rfl | rfl | rfl <;> rfl) ?_; intro H1 hle1 hc) | (refine O_ev WideF.wide rfl (Ev_seqs (s := ifS) rfl rfl) rfl rfl ?_) | (refine O_ev WideF.wide rfl (Ev_loadH rfl hc rfl) rfl rfl ?_) | (show opsA _ _ _ _ (⟨some 57, .call _, _, _, _, _⟩ :: _) _ _; refine O_ef rfl (Ef_call (I := []) WideF.wide (kz _ hle1) ⟨rfl, rfl, trivial⟩ rfl ?_); rintro v57 H57 I57 hl57 ⟨rfl, rfl⟩) | refine O_nil ?_ | refine A_seq ?_ | refine A_region ?_ | refine A_skip ?_ | refine A_ret ?_ | refine A_block ?_ | (show opsA _ _ _ _ _ _ _; first | (refine O_split rfl rfl (fun h => ?_) (fun h => ?_) <;> try (exfalso; omega)) | refine O_ev WideF.wide rfl (Ev_pure rfl) rfl rfl ?_ | (show opsA _ _ _ _ (⟨_, .load _ _, _, _, _, _⟩ :: _) _ _; first | refine O_ev WideF.wide rfl (Ev_loadH1 rfl (hc 0 _ rfl)) rfl rfl ?_ | refine O_ev WideF.wide rfl (Ev_loadH1 rfl (hc 2 _ rfl)) rfl rfl ?_) | (show opsA _ _ _ _ (⟨_, .fieldAddr _ _ _, _, _, _, _⟩ :: _) _ _; refine O_ev WideF.wide rfl (Ev_fieldAddr rfl rfl rfl) rfl rfl ?_) | (show opsA _ _ _ _ (⟨_, .alloc _, _, _, _, _⟩ :: _) _ _; (refine O_ef rfl (Ef_alloc WideF.wide rfl ?_); intro b)) | (show opsA _ _ _ _ (⟨_, .store _ _ _, _, _, _, _⟩ :: _) _ _; refine O_ef rfl (Ef_storew WideF.wide rfl rfl rfl rfl rfl ?_))) | (show wpA _ _ _ (.cond _ _ _) _ _ _ _; first | (refine A_if rfl (fun h => ?_) (fun h => ?_) <;> try (exfalso; omega)) | refine A_iftrue rfl ?_))
  all_goals first
    | (exfalso; omega)
    | (exfalso; contradiction)
    | (exfalso; exact absurd trivial (by assumption))
    | (exfalso; exact absurd rfl (by assumption))
    | exact End_e (RetC2 (i := 0) rfl rfl rfl rfl rfl) ⟨rfl, rfl⟩
    | trace_state
set_option maxRecDepth 100000 in
set_option maxHeartbeats 16000000 in
theorem eval_5 {H : Hp} {num : Int} {text : List UInt8} {a : Option Addr} {n cp : Nat} {args : List Nd} {ea : Option Addr} {en ec : Nat} {env : List Bnd} (hs : NodesS H a n cp args) (ke : ∀ y ∈ args, EvN ea en ec env H y) (hn : n ≤ 1000000) (hnif : ¬ text = ifS) {lo hi : Int} (hf : fnArg text = some (lo, hi)) (hV : VarsH H) (hA : (valL (args.map (evE env))).2 = 0 → ArgsOk text (valL (args.map (evE env))).1 n) :
    Fn Tryz.prog 54 [.agg [.int .i64 5, .int .i64 num, sv text, .slice a n cp].toArray, .slice ea en ec] H [] fun v _ I => v = rVE (evT env 5 num text (args.map (evE env))) ∧ I = [] := by
  rw [show evT env 5 num text (args.map (evE env)) = (if (valL (args.map (evE env))).2 ≠ 0 then (zV, (valL (args.map (evE env))).2) else fcall text (valL (args.map (evE env))).1) by unfold evT; rw [if_neg (by decide), if_neg (by decide), if_neg (by decide), if_neg (by rintro (h | h | h); exact absurd h (by decide); exact absurd h (by decide); exact hnif h.2), if_pos rfl]]
  have kv := fun Hx (hle : HLe H Hx) => values_fn hn (hs.mono hle) (fun y hy => (ke y hy).mono hle)
  by_cases he : (valL (args.map (evE env))).2 = 0
  · rw [if_neg (fun h => h he)]
    rw [he] at kv
    have hA := hA he
    refine Fn_of _ _ Tryz.func54 rfl Tryz.ntmps54 rfl fun c => ?_
    repeat' (first | (refine O_ef rfl (Ef_boxa WideF.wide (cs := [.int .i64 5, .int .i64 num, sv text, .slice _ _ _]) rfl rfl ?_); intro b9; refine O_freezeBox (by intro u hu; simp at hu; rcases hu with rfl | rfl | rfl | rfl <;> rfl) ?_; intro H1 hle1 hc) | (show opsA _ _ _ _ (⟨some 64, .call _, _, _, _, _⟩ :: _) _ _; refine O_ef rfl (Ef_call (I := []) WideF.wide (kv _ hle1) ⟨rfl, rfl, trivial⟩ rfl ?_); rintro v64 H64 I64 hl64 ⟨⟨a', n', c', rfl, hr'⟩, rfl⟩) | (refine O_ev WideF.wide rfl (Ev_loadH1 rfl (hl64 _ _ _ (hc 0 _ rfl))) rfl rfl ?_) | (show wpA _ _ _ (.region 18 _ _) _ _ _ _; (refine A_drawM WideF.wide (.q 1 (.q 2 (.q 5 (.e 0 (.e 3 (.q 4 (.e 6 (.q 7 (.q 8 (.done [9, 10])))))))))) [9, 10] (by decide +kernel) ?_)) | (refine E_ef rfl (Ef_call (I := []) WideF.wide functions_fn trivial rfl ?_); rintro v5 H5 I5 hle5 ⟨mb, kvs, rfl, hF, rfl⟩; refine ⟨⟨hle5, rfl⟩, ?_⟩; obtain ⟨fv5, hsg, f5, caps5, rfl, ⟨inst5⟩, hcall5⟩ := hF.call hf hnif; have hlv : (valL (args.map (evE env))).1.length = n' := by { have := hr'.len; simpa using this }; have hv5 := hcall5 H5 a' n' c' (valL (args.map (evE env))).1 (HLe.refl _) (hr'.mono hle5) ((hV.mono hle1).mono (hl64.trans hle5)) (by { have hl9 := (valL_ok _ he).1; have h10 : n' = n := by { rw [← hlv, hl9]; simpa using hs.len }; rw [h10]; exact hA })) | (refine E_ef rfl (Ef_ev WideF.wide (Ev_lookupT (i := 0) Tryz.zeroValue106 rfl rfl rfl) rfl rfl ?_); refine ⟨Grow.same rfl rfl, ?_⟩; rw [hsg]) | (refine D_ev rfl (Ev_loadH1 rfl (hl64 _ _ _ (hc 2 _ rfl))) rfl rfl ?_) | (refine D_ev rfl (Ev_field1 rfl rfl) rfl rfl ?_) | (refine E_ef rfl (Ef_callc (I := []) (args := [.slice a' n' c']) (caps := caps5) WideF.wide hv5 rfl ⟨rfl, trivial⟩ rfl ?_); rintro v6 H6 I6 hle6 ⟨rfl, rfl⟩; refine ⟨⟨hle6, rfl⟩, ?_⟩) | refine O_nil ?_ | refine A_seq ?_ | refine A_region ?_ | refine A_skip ?_ | refine A_ret ?_ | refine A_block ?_ | (show drJ _ _ _ _ _ _ _ (.q _ _) _; refine D_q rfl ?_) | (show drJ _ _ _ _ _ _ _ (.e _ _) _; refine D_e rfl ?_) | (show drJ _ _ _ _ _ _ _ (.done _) _; refine D_done ?_; simp only [List.cons_append, List.nil_append]) | (show drQ _ _ _ _ _ _; first | refine D_ev rfl (Ev_pure rfl) rfl rfl ?_ | (show drQ _ _ _ ⟨_, .fieldAddr _ _ _, _, _, _, _⟩ _ _; refine D_ev rfl (Ev_fieldAddr rfl rfl rfl) rfl rfl ?_)) | (show opsA _ _ _ _ _ _ _; first | (refine O_split rfl rfl (fun h => ?_) (fun h => ?_) <;> try (exfalso; omega)) | refine O_ev WideF.wide rfl (Ev_pure rfl) rfl rfl ?_ | (show opsA _ _ _ _ (⟨_, .load _ _, _, _, _, _⟩ :: _) _ _; first | refine O_ev WideF.wide rfl (Ev_loadH1 rfl (hc 0 _ rfl)) rfl rfl ?_ | refine O_ev WideF.wide rfl (Ev_loadH1 rfl (hc 2 _ rfl)) rfl rfl ?_ | refine O_ev WideF.wide rfl (Ev_loadH1 rfl (hc 3 _ rfl)) rfl rfl ?_ | refine O_ev WideF.wide rfl (Ev_loadH rfl (by assumption) (by rfl)) rfl rfl ?_) | (show opsA _ _ _ _ (⟨_, .fieldAddr _ _ _, _, _, _, _⟩ :: _) _ _; refine O_ev WideF.wide rfl (Ev_fieldAddr rfl rfl rfl) rfl rfl ?_) | (show opsA _ _ _ _ (⟨_, .binOp _ _ _ _ _, _, _, _, _⟩ :: _) _ _; refine O_ev WideF.wide rfl (Ev_seql rfl rfl) rfl rfl ?_) | (show opsA _ _ _ _ (⟨_, .alloc _, _, _, _, _⟩ :: _) _ _; (refine O_ef rfl (Ef_alloc WideF.wide rfl ?_); intro b)) | (show opsA _ _ _ _ (⟨_, .store _ _ _, _, _, _, _⟩ :: _) _ _; refine O_f1 (O_ef rfl (Ef_storew WideF.wide rfl rfl rfl rfl rfl ?_)))) | (show wpA _ _ _ (.cond _ _ _) _ _ _ _; (refine A_if rfl (fun h => ?_) (fun h => ?_) <;> try (exfalso; omega))))
    all_goals first
      | (exfalso; omega)
      | (exfalso; contradiction)
      | (exfalso; exact absurd trivial (by assumption))
      | (exfalso; exact absurd rfl (by assumption))
      | exact End_e (RetC2 (i := 0) rfl rfl rfl rfl rfl) ⟨rfl, rfl⟩
      | exact End_e (RetC2 (i := 1) rfl rfl rfl rfl rfl) ⟨rfl, rfl⟩
      | trace_state
  · rw [if_pos he]
    refine Fn_of _ _ Tryz.func54 rfl Tryz.ntmps54 rfl fun c => ?_
    repeat' (first | (refine O_ef rfl (Ef_boxa WideF.wide (cs := [.int .i64 5, .int .i64 num, sv text, .slice _ _ _]) rfl rfl ?_); intro b9; refine O_freezeBox (by intro u hu; simp at hu; rcases hu with rfl | rfl | rfl | rfl <;> rfl) ?_; intro H1 hle1 hc) | (show opsA _ _ _ _ (⟨some 64, .call _, _, _, _, _⟩ :: _) _ _; refine O_ef rfl (Ef_call (I := []) WideF.wide (kv _ hle1) ⟨rfl, rfl, trivial⟩ rfl ?_); rintro v64 H64 I64 hl64 ⟨⟨a', n', c', rfl, hr'⟩, rfl⟩) | refine O_nil ?_ | refine A_seq ?_ | refine A_region ?_ | refine A_skip ?_ | refine A_ret ?_ | refine A_block ?_ | (show opsA _ _ _ _ _ _ _; first | (refine O_split rfl rfl (fun h => ?_) (fun h => ?_) <;> try (exfalso; omega)) | refine O_ev WideF.wide rfl (Ev_pure rfl) rfl rfl ?_ | (show opsA _ _ _ _ (⟨_, .load _ _, _, _, _, _⟩ :: _) _ _; first | refine O_ev WideF.wide rfl (Ev_loadH1 rfl (hc 0 _ rfl)) rfl rfl ?_ | refine O_ev WideF.wide rfl (Ev_loadH1 rfl (hc 2 _ rfl)) rfl rfl ?_ | refine O_ev WideF.wide rfl (Ev_loadH1 rfl (hc 3 _ rfl)) rfl rfl ?_ | refine O_ev WideF.wide rfl (Ev_loadH rfl (by assumption) (by rfl)) rfl rfl ?_) | (show opsA _ _ _ _ (⟨_, .fieldAddr _ _ _, _, _, _, _⟩ :: _) _ _; refine O_ev WideF.wide rfl (Ev_fieldAddr rfl rfl rfl) rfl rfl ?_) | (show opsA _ _ _ _ (⟨_, .binOp _ _ _ _ _, _, _, _, _⟩ :: _) _ _; refine O_ev WideF.wide rfl (Ev_seql rfl rfl) rfl rfl ?_) | (show opsA _ _ _ _ (⟨_, .build _ _, _, _, _, _⟩ :: _) _ _; refine O_ev WideF.wide rfl (Ev_build (vs := []) trivial rfl) rfl rfl ?_) | (show opsA _ _ _ _ (⟨_, .alloc _, _, _, _, _⟩ :: _) _ _; (refine O_ef rfl (Ef_alloc WideF.wide rfl ?_); intro b)) | (show opsA _ _ _ _ (⟨_, .store _ _ _, _, _, _, _⟩ :: _) _ _; refine O_ef rfl (Ef_storew WideF.wide rfl rfl rfl rfl rfl ?_))) | (show wpA _ _ _ (.cond _ _ _) _ _ _ _; (refine A_if rfl (fun h => ?_) (fun h => ?_) <;> try (exfalso; omega))))
    all_goals first
      | (exfalso; omega)
      | (exfalso; contradiction)
      | (exfalso; exact absurd trivial (by assumption))
      | (exfalso; exact absurd rfl (by assumption))
      | exact End_e (RetC2 (i := 0) rfl rfl rfl rfl rfl) ⟨rfl, rfl⟩
      | trace_state
set_option maxRecDepth 100000 in
set_option maxHeartbeats 16000000 in
theorem eval_un {op : Int} {H : Hp} {num : Int} {text : List UInt8} {a : Option Addr} {n cp : Nat} {args : List Nd} {ea : Option Addr} {en ec : Nat} {env : List Bnd} (hs : NodesS H a n cp args) (ke : ∀ y ∈ args, EvN ea en ec env H y) (hn : n ≤ 1000000) (hop : op = 8 ∨ op = 21) (hn1 : n = 1) :
    Fn Tryz.prog 54 [.agg [.int .i64 op, .int .i64 num, sv text, .slice a n cp].toArray, .slice ea en ec] H [] fun v _ I => v = rVE (evT env op num text (args.map (evE env))) ∧ I = [] := by
  have hop5 : op ≠ 5 := by omega
  have hnif : True := trivial
  rw [show evT env op num text (args.map (evE env)) = (if (valL (args.map (evE env))).2 ≠ 0 then (zV, (valL (args.map (evE env))).2) else oprV op (valL (args.map (evE env))).1) by unfold evT; rw [if_neg (by omega), if_neg (by omega), if_neg (by omega), if_neg (by omega), if_neg hop5]]
  have kv := fun Hx (hle : HLe H Hx) => values_fn hn (hs.mono hle) (fun y hy => (ke y hy).mono hle)
  by_cases he : (valL (args.map (evE env))).2 = 0
  · rw [if_neg (fun h => h he)]
    rw [he] at kv
    obtain ⟨w, hw⟩ : ∃ w, (valL (args.map (evE env))).1 = [w] := by
      have h1 := (valL_ok _ he).1
      have h2 := hs.len
      match args, h2 with
      | [y], _ => exact ⟨_, h1⟩
      | [], h2 => simp at h2; omega
      | _ :: _ :: _, h2 => simp at h2; omega
    rw [hw] at kv ⊢
    refine Fn_of _ _ Tryz.func54 rfl Tryz.ntmps54 rfl fun c => ?_
    repeat' (first | (refine O_ef rfl (Ef_boxa WideF.wide (cs := [.int .i64 op, .int .i64 num, sv text, .slice _ _ _]) rfl rfl ?_); intro b9; refine O_freezeBox (by intro u hu; simp at hu; rcases hu with rfl | rfl | rfl | rfl <;> rfl) ?_; intro H1 hle1 hc) | (show opsA _ _ _ _ (⟨some 64, .call _, _, _, _, _⟩ :: _) _ _; refine O_ef rfl (Ef_call (I := []) WideF.wide (kv _ hle1) ⟨rfl, rfl, trivial⟩ rfl ?_); rintro v64 H64 I64 hl64 ⟨⟨a', n', c', rfl, hr'⟩, rfl⟩; obtain rfl : n' = 1 := by { have := hr'.len; simpa using this.symm }) | (refine O_ev WideF.wide rfl (Ev_loadH1 rfl (hl64 _ _ _ (hc 0 _ rfl))) rfl rfl ?_) | (show opsA _ _ _ _ (⟨some 86, .call _, _, _, _, _⟩ :: _) _ _; refine O_ef rfl (Ef_call (I := []) WideF.wide (operate1_fn hr' hop) ⟨rfl, rfl, trivial⟩ rfl ?_); rintro v7 H7 I7 hl7 ⟨rfl, rfl⟩) | refine O_nil ?_ | refine A_seq ?_ | refine A_region ?_ | refine A_skip ?_ | refine A_ret ?_ | refine A_block ?_ | (show opsA _ _ _ _ _ _ _; first | (refine O_split rfl rfl (fun h => ?_) (fun h => ?_) <;> try (exfalso; omega)) | refine O_ev WideF.wide rfl (Ev_pure rfl) rfl rfl ?_ | (show opsA _ _ _ _ (⟨_, .load _ _, _, _, _, _⟩ :: _) _ _; first | refine O_ev WideF.wide rfl (Ev_loadH1 rfl (hc 0 _ rfl)) rfl rfl ?_ | refine O_ev WideF.wide rfl (Ev_loadH1 rfl (hc 3 _ rfl)) rfl rfl ?_) | (show opsA _ _ _ _ (⟨_, .fieldAddr _ _ _, _, _, _, _⟩ :: _) _ _; refine O_ev WideF.wide rfl (Ev_fieldAddr rfl rfl rfl) rfl rfl ?_) | (show opsA _ _ _ _ (⟨_, .alloc _, _, _, _, _⟩ :: _) _ _; (refine O_ef rfl (Ef_alloc WideF.wide rfl ?_); intro b)) | (show opsA _ _ _ _ (⟨_, .store _ _ _, _, _, _, _⟩ :: _) _ _; refine O_ef rfl (Ef_storew WideF.wide rfl rfl rfl rfl rfl ?_)) | refine O_skip WideF.wide rfl rfl rfl ?_) | (show wpA _ _ _ (.cond _ _ _) _ _ _ _; first | (refine A_if rfl (fun h => ?_) (fun h => ?_) <;> try (exfalso; omega)) | refine A_iffalse rfl ?_))
    all_goals first
      | (exfalso; omega)
      | (exfalso; contradiction)
      | (exfalso; exact absurd trivial (by assumption))
      | (exfalso; exact absurd rfl (by assumption))
      | exact End_e (RetC2 (i := 0) rfl rfl rfl rfl rfl) ⟨rfl, rfl⟩
      | trace_state
  · rw [if_pos he]
    refine Fn_of _ _ Tryz.func54 rfl Tryz.ntmps54 rfl fun c => ?_
    repeat' (first | (refine O_ef rfl (Ef_boxa WideF.wide (cs := [.int .i64 op, .int .i64 num, sv text, .slice _ _ _]) rfl rfl ?_); intro b9; refine O_freezeBox (by intro u hu; simp at hu; rcases hu with rfl | rfl | rfl | rfl <;> rfl) ?_; intro H1 hle1 hc) | (show opsA _ _ _ _ (⟨some 64, .call _, _, _, _, _⟩ :: _) _ _; refine O_ef rfl (Ef_call (I := []) WideF.wide (kv _ hle1) ⟨rfl, rfl, trivial⟩ rfl ?_); rintro v64 H64 I64 hl64 ⟨⟨a', n', c', rfl, hr'⟩, rfl⟩) | refine O_nil ?_ | refine A_seq ?_ | refine A_region ?_ | refine A_skip ?_ | refine A_ret ?_ | refine A_block ?_ | (show opsA _ _ _ _ _ _ _; first | (refine O_split rfl rfl (fun h => ?_) (fun h => ?_) <;> try (exfalso; omega)) | refine O_ev WideF.wide rfl (Ev_pure rfl) rfl rfl ?_ | (show opsA _ _ _ _ (⟨_, .load _ _, _, _, _, _⟩ :: _) _ _; first | refine O_ev WideF.wide rfl (Ev_loadH1 rfl (hc 0 _ rfl)) rfl rfl ?_ | refine O_ev WideF.wide rfl (Ev_loadH1 rfl (hc 3 _ rfl)) rfl rfl ?_) | (show opsA _ _ _ _ (⟨_, .fieldAddr _ _ _, _, _, _, _⟩ :: _) _ _; refine O_ev WideF.wide rfl (Ev_fieldAddr rfl rfl rfl) rfl rfl ?_) | (show opsA _ _ _ _ (⟨_, .build _ _, _, _, _, _⟩ :: _) _ _; refine O_ev WideF.wide rfl (Ev_build (vs := []) trivial rfl) rfl rfl ?_) | (show opsA _ _ _ _ (⟨_, .alloc _, _, _, _, _⟩ :: _) _ _; (refine O_ef rfl (Ef_alloc WideF.wide rfl ?_); intro b)) | (show opsA _ _ _ _ (⟨_, .store _ _ _, _, _, _, _⟩ :: _) _ _; refine O_ef rfl (Ef_storew WideF.wide rfl rfl rfl rfl rfl ?_)) | refine O_skip WideF.wide rfl rfl rfl ?_) | (show wpA _ _ _ (.cond _ _ _) _ _ _ _; first | (refine A_if rfl (fun h => ?_) (fun h => ?_) <;> try (exfalso; omega)) | refine A_iffalse rfl ?_))
    all_goals first
      | (exfalso; omega)
      | (exfalso; contradiction)
      | (exfalso; exact absurd trivial (by assumption))
      | (exfalso; exact absurd rfl (by assumption))
      | exact End_e (RetC2 (i := 0) rfl rfl rfl rfl rfl) ⟨rfl, rfl⟩
      | trace_state
set_option maxRecDepth 100000 in
set_option maxHeartbeats 16000000 in
theorem eval_bin {op : Int} {H : Hp} {num : Int} {text : List UInt8} {a : Option Addr} {n cp : Nat} {args : List Nd} {ea : Option Addr} {en ec : Nat} {env : List Bnd} (hs : NodesS H a n cp args) (ke : ∀ y ∈ args, EvN ea en ec env H y) (hn : n ≤ 1000000) (hop : 9 ≤ op ∧ op ≤ 20) (hn2 : n = 2) (hvk : ∀ p ∈ args.map (evE env), VOk p.1) :
    Fn Tryz.prog 54 [.agg [.int .i64 op, .int .i64 num, sv text, .slice a n cp].toArray, .slice ea en ec] H [] fun v _ I => v = rVE (evT env op num text (args.map (evE env))) ∧ I = [] := by
  have hop5 : op ≠ 5 := by omega
  rw [show evT env op num text (args.map (evE env)) = (if (valL (args.map (evE env))).2 ≠ 0 then (zV, (valL (args.map (evE env))).2) else oprV op (valL (args.map (evE env))).1) by unfold evT; rw [if_neg (by omega), if_neg (by omega), if_neg (by omega), if_neg (by omega), if_neg hop5]]
  have kv := fun Hx (hle : HLe H Hx) => values_fn hn (hs.mono hle) (fun y hy => (ke y hy).mono hle)
  by_cases he : (valL (args.map (evE env))).2 = 0
  · rw [if_neg (fun h => h he)]
    rw [he] at kv
    obtain ⟨w, w2, hw, hok1, hok2⟩ : ∃ w w2, (valL (args.map (evE env))).1 = [w, w2] ∧ VOk w ∧ VOk w2 := by
      have h1 := (valL_ok _ he).1
      have h2 := hs.len
      match args, h2, hvk with
      | [y, z], _, hvk => exact ⟨_, _, h1, hvk _ (by simp), hvk _ (by simp)⟩
      | [], h2, _ => simp at h2; omega
      | [_], h2, _ => simp at h2; omega
      | _ :: _ :: _ :: _, h2, _ => simp at h2; omega
    rw [hw] at kv ⊢
    refine Fn_of _ _ Tryz.func54 rfl Tryz.ntmps54 rfl fun c => ?_
    repeat' (first | (refine O_ef rfl (Ef_boxa WideF.wide (cs := [.int .i64 op, .int .i64 num, sv text, .slice _ _ _]) rfl rfl ?_); intro b9; refine O_freezeBox (by intro u hu; simp at hu; rcases hu with rfl | rfl | rfl | rfl <;> rfl) ?_; intro H1 hle1 hc) | (show opsA _ _ _ _ (⟨some 64, .call _, _, _, _, _⟩ :: _) _ _; refine O_ef rfl (Ef_call (I := []) WideF.wide (kv _ hle1) ⟨rfl, rfl, trivial⟩ rfl ?_); rintro v64 H64 I64 hl64 ⟨⟨a', n', c', rfl, hr'⟩, rfl⟩; obtain rfl : n' = 2 := by { have := hr'.len; simpa using this.symm }) | (refine O_ev WideF.wide rfl (Ev_loadH1 rfl (hl64 _ _ _ (hc 0 _ rfl))) rfl rfl ?_) | (show opsA _ _ _ _ (⟨some 86, .call _, _, _, _, _⟩ :: _) _ _; refine O_ef rfl (Ef_call (I := []) WideF.wide (operate2_fn hr' hop hok1 hok2) ⟨rfl, rfl, trivial⟩ rfl ?_); rintro v7 H7 I7 hl7 ⟨rfl, rfl⟩) | refine O_nil ?_ | refine A_seq ?_ | refine A_region ?_ | refine A_skip ?_ | refine A_ret ?_ | refine A_block ?_ | (show opsA _ _ _ _ _ _ _; first | (refine O_split rfl rfl (fun h => ?_) (fun h => ?_) <;> try (exfalso; omega)) | refine O_ev WideF.wide rfl (Ev_pure rfl) rfl rfl ?_ | (show opsA _ _ _ _ (⟨_, .load _ _, _, _, _, _⟩ :: _) _ _; first | refine O_ev WideF.wide rfl (Ev_loadH1 rfl (hc 0 _ rfl)) rfl rfl ?_ | refine O_ev WideF.wide rfl (Ev_loadH1 rfl (hc 3 _ rfl)) rfl rfl ?_) | (show opsA _ _ _ _ (⟨_, .fieldAddr _ _ _, _, _, _, _⟩ :: _) _ _; refine O_ev WideF.wide rfl (Ev_fieldAddr rfl rfl rfl) rfl rfl ?_) | (show opsA _ _ _ _ (⟨_, .alloc _, _, _, _, _⟩ :: _) _ _; (refine O_ef rfl (Ef_alloc WideF.wide rfl ?_); intro b)) | (show opsA _ _ _ _ (⟨_, .store _ _ _, _, _, _, _⟩ :: _) _ _; refine O_ef rfl (Ef_storew WideF.wide rfl rfl rfl rfl rfl ?_)) | refine O_skip WideF.wide rfl rfl rfl ?_) | (show wpA _ _ _ (.cond _ _ _) _ _ _ _; first | (refine A_if rfl (fun h => ?_) (fun h => ?_) <;> try (exfalso; omega)) | refine A_iffalse rfl ?_))
    all_goals first
      | (exfalso; omega)
      | (exfalso; contradiction)
      | (exfalso; exact absurd trivial (by assumption))
      | (exfalso; exact absurd rfl (by assumption))
      | exact End_e (RetC2 (i := 0) rfl rfl rfl rfl rfl) ⟨rfl, rfl⟩
      | trace_state
  · rw [if_pos he]
    refine Fn_of _ _ Tryz.func54 rfl Tryz.ntmps54 rfl fun c => ?_
    repeat' (first | (refine O_ef rfl (Ef_boxa WideF.wide (cs := [.int .i64 op, .int .i64 num, sv text, .slice _ _ _]) rfl rfl ?_); intro b9; refine O_freezeBox (by intro u hu; simp at hu; rcases hu with rfl | rfl | rfl | rfl <;> rfl) ?_; intro H1 hle1 hc) | (show opsA _ _ _ _ (⟨some 64, .call _, _, _, _, _⟩ :: _) _ _; refine O_ef rfl (Ef_call (I := []) WideF.wide (kv _ hle1) ⟨rfl, rfl, trivial⟩ rfl ?_); rintro v64 H64 I64 hl64 ⟨⟨a', n', c', rfl, hr'⟩, rfl⟩) | refine O_nil ?_ | refine A_seq ?_ | refine A_region ?_ | refine A_skip ?_ | refine A_ret ?_ | refine A_block ?_ | (show opsA _ _ _ _ _ _ _; first | (refine O_split rfl rfl (fun h => ?_) (fun h => ?_) <;> try (exfalso; omega)) | refine O_ev WideF.wide rfl (Ev_pure rfl) rfl rfl ?_ | (show opsA _ _ _ _ (⟨_, .load _ _, _, _, _, _⟩ :: _) _ _; first | refine O_ev WideF.wide rfl (Ev_loadH1 rfl (hc 0 _ rfl)) rfl rfl ?_ | refine O_ev WideF.wide rfl (Ev_loadH1 rfl (hc 3 _ rfl)) rfl rfl ?_) | (show opsA _ _ _ _ (⟨_, .fieldAddr _ _ _, _, _, _, _⟩ :: _) _ _; refine O_ev WideF.wide rfl (Ev_fieldAddr rfl rfl rfl) rfl rfl ?_) | (show opsA _ _ _ _ (⟨_, .build _ _, _, _, _, _⟩ :: _) _ _; refine O_ev WideF.wide rfl (Ev_build (vs := []) trivial rfl) rfl rfl ?_) | (show opsA _ _ _ _ (⟨_, .alloc _, _, _, _, _⟩ :: _) _ _; (refine O_ef rfl (Ef_alloc WideF.wide rfl ?_); intro b)) | (show opsA _ _ _ _ (⟨_, .store _ _ _, _, _, _, _⟩ :: _) _ _; refine O_ef rfl (Ef_storew WideF.wide rfl rfl rfl rfl rfl ?_)) | refine O_skip WideF.wide rfl rfl rfl ?_) | (show wpA _ _ _ (.cond _ _ _) _ _ _ _; first | (refine A_if rfl (fun h => ?_) (fun h => ?_) <;> try (exfalso; omega)) | refine A_iffalse rfl ?_))
    all_goals first
      | (exfalso; omega)
      | (exfalso; contradiction)
      | (exfalso; exact absurd trivial (by assumption))
      | (exfalso; exact absurd rfl (by assumption))
      | exact End_e (RetC2 (i := 0) rfl rfl rfl rfl rfl) ⟨rfl, rfl⟩
      | trace_state
end
def EvC (ea : Option Addr) (en ec : Nat) (env : List Bnd) (N : Nat) : Prop := ∀ (H : Hp) (cs : List Value) (x : Nd), NodeH H cs x → x.mass < N → okN x → HRow H ea en ec 4 (env.map bdrow) → VarsH H →
  Fn Tryz.prog 54 [.agg cs.toArray, .slice ea en ec] H [] fun v _ I => v = rVE (evE env x) ∧ I = []
theorem eval_step {ea : Option Addr} {en ec : Nat} {env : List Bnd} (hen : en < 4611686018427387904) (hE : EnvV env) {N : Nat} (hN : EvC ea en ec env N) : EvC ea en ec env (N + 1) := by
  intro H cs x hx hm hok henv hV
  obtain ⟨a, n, cp, rfl, hs⟩ := hx.cells
  have hlen := hs.len
  have e3 := x.mass_eq
  have hok' := (okN_eq x).1 hok
  have hall := (okL_all _).1 hok'.2
  have ke : ∀ y ∈ x.args, EvN ea en ec env H y := fun y hy H' cs hle hn => by
    obtain ⟨i, hi⟩ := List.mem_iff_getElem?.1 hy
    have := massN_get hi
    exact hN H' cs y hn (by omega) (hall y hy) (henv.mono hle) (hV.mono hle)
  have hr : ∀ p ∈ x.args.map (evE env), VOk p.1 := fun p hp => by
    obtain ⟨y, hy, rfl⟩ := List.mem_map.1 hp
    exact evE_ok hE y (hall y hy)
  rw [evE_eq]
  obtain ⟨op, num, text, args⟩ := x
  have hch : chkT op num text (args.length : Int) = 0 := hok'.1
  have hargs := chkT_args hch
  dsimp only [Nd.op, Nd.num, Nd.text, Nd.args] at hs hlen ke hr ⊢
  rw [hlen] at hargs
  by_cases h1 : op = 1
  · subst h1; exact eval_1 hs ke
  by_cases h3 : op = 3
  · subst h3; exact eval_3 hs ke
  by_cases h2 : op = 2
  · subst h2; exact eval_2 hs ke
  by_cases h4 : op = 4
  · subst h4; exact eval_4 hs ke henv hen
  by_cases h5 : op = 5
  · subst h5
    obtain ⟨lo, hi, hf, hlo, hhi⟩ := hargs.2.2.2 rfl
    have hfl := fnArg_lo hf
    by_cases hif : text = ifS
    · subst hif
      have h9 := hfl.2.2 rfl
      obtain rfl : n = 3 := by omega
      match args, hlen, hs, ke with
      | [y0, y1, y2], _, hs, ke => exact eval_if hs (ke y0 (by simp)) (ke y1 (by simp)) (ke y2 (by simp))
    · refine eval_5 hs ke (by omega) hif hf hV fun he => ⟨by omega, ?_, fun v hv => ?_⟩
      · rcases hfl.1 with h | h
        · exact .inl h
        · exact .inr (by omega)
      · rw [(valL_ok _ he).1] at hv
        obtain ⟨p, hp, rfl⟩ := List.mem_map.1 hv
        exact hr p hp
  have hn := hargs.2.2.1 h5
  by_cases h6 : op = 6
  · subst h6
    obtain rfl : n = 2 := by have : (n : Int) = 2 := hn; omega
    match args, hlen, hs, ke with
    | [y0, y1], _, hs, ke => exact eval_6 hs (ke y0 (by simp)) (ke y1 (by simp))
  by_cases h7 : op = 7
  · subst h7
    obtain rfl : n = 2 := by have : (n : Int) = 2 := hn; omega
    match args, hlen, hs, ke with
    | [y0, y1], _, hs, ke => exact eval_7 hs (ke y0 (by simp)) (ke y1 (by simp))
  by_cases h8 : op = 8 ∨ op = 21
  · have hn1 : n = 1 := by
      have : arityN op = 1 := by unfold arityN; rw [if_neg (by omega), if_pos h8]
      omega
    exact eval_un hs ke (by omega) h8 hn1
  · have hn2 : n = 2 := by
      have : arityN op = 2 := by unfold arityN; rw [if_neg (by omega), if_neg h8]
      omega
    exact eval_bin hs ke (by omega) (by omega) hn2 hr
theorem eval_all {ea : Option Addr} {en ec : Nat} {env : List Bnd} (hen : en < 4611686018427387904) (hE : EnvV env) : ∀ N, EvC ea en ec env N
  | 0 => fun H _ x _ h => absurd h (by omega)
  | N + 1 => eval_step hen hE (eval_all hen hE N)
/-- what Eval gives -/
noncomputable def evl (env : List Bnd) (x : Nd) : Val × Int := if chkE x ≠ 0 then (zV, chkE x) else evE env x
attribute [local irreducible] wpA opsA drJ drQ drE Ef Ev Shift Fn
set_option maxRecDepth 100000 in
theorem Eval_fn {H : Hp} {cs : List Value} {x : Nd} {ea : Option Addr} {en ec : Nat} {env : List Bnd} (hx : NodeH H cs x) (hm : x.mass < 34359738368) (henv : HRow H ea en ec 4 (env.map bdrow)) (hen : en < 4611686018427387904) (hE : EnvV env) (hV : VarsH H) :
    Fn Tryz.prog 22 [.agg cs.toArray, .slice ea en ec] H [] fun v _ I => v = rVE (evl env x) ∧ I = [] := by
  have hone := hx.one
  have kc := fun Hx (hle : HLe H Hx) => Check_fn (hx.mono hle) hm
  have kv := fun (h : chkE x = 0) Hx (hle : HLe H Hx) => eval_all hen hE (x.mass + 1) Hx cs x (hx.mono hle) (by omega) (chkE_ok h) (henv.mono hle) (hV.mono hle)
  obtain ⟨a, n, cp, rfl, hs⟩ := hx.cells
  unfold evl
  by_cases h0 : chkE x = 0
  · rw [if_neg (fun h => h h0)]
    rw [h0] at kc
    have kv := kv h0
    refine Fn_of _ _ Tryz.func22 rfl Tryz.ntmps22 rfl fun c => ?_
    repeat' (first | (refine O_ef rfl (Ef_boxa WideF.wide (cs := [.int .i64 x.op, .int .i64 x.num, sv x.text, .slice _ _ _]) rfl rfl ?_); intro b9; refine O_freezeBox hone ?_; intro H1 hle1 hc) | (show opsA _ _ _ _ (⟨some 8, .call _, _, _, _, _⟩ :: _) _ _; refine O_ef rfl (Ef_call (I := []) WideF.wide (kc _ hle1) ⟨rfl, trivial⟩ rfl ?_); rintro v2 H2 I2 hle2 ⟨rfl, rfl⟩) | (refine O_ev WideF.wide rfl (Ev_loadH rfl (hc.mono hle2) rfl) rfl rfl ?_) | (refine O_ev WideF.wide rfl (Ev_loadH rfl hc rfl) rfl rfl ?_) | (show opsA _ _ _ _ (⟨some 15, .call _, _, _, _, _⟩ :: _) _ _; refine O_ef rfl (Ef_call (I := []) WideF.wide (kv _ (hle1.trans hle2)) ⟨rfl, rfl, trivial⟩ rfl ?_); rintro v3 H3 I3 hle3 ⟨rfl, rfl⟩) | refine O_nil ?_ | refine A_seq ?_ | refine A_region ?_ | refine A_skip ?_ | refine A_ret ?_ | (show opsA _ _ _ _ _ _ _; first | refine O_ev WideF.wide rfl (Ev_pure rfl) rfl rfl ?_ | (show opsA _ _ _ _ (⟨_, .alloc _, _, _, _, _⟩ :: _) _ _; (refine O_ef rfl (Ef_alloc WideF.wide rfl ?_); intro b)) | (show opsA _ _ _ _ (⟨_, .store _ _ _, _, _, _, _⟩ :: _) _ _; refine O_ef rfl (Ef_storew WideF.wide rfl rfl rfl rfl rfl ?_))) | (show wpA _ _ _ (.cond _ _ _) _ _ _ _; (refine A_if rfl (fun h => ?_) (fun h => ?_) <;> try (exfalso; omega))))
    all_goals first
      | (exfalso; omega)
      | (exfalso; contradiction)
      | (exfalso; exact absurd trivial (by assumption))
      | (exfalso; exact absurd rfl (by assumption))
      | exact End_e (RetC2 (i := 0) rfl rfl rfl rfl rfl) ⟨rfl, rfl⟩
      | trace_state
  · rw [if_pos h0]
    refine Fn_of _ _ Tryz.func22 rfl Tryz.ntmps22 rfl fun c => ?_
    repeat' (first | (refine O_ef rfl (Ef_boxa WideF.wide (cs := [.int .i64 x.op, .int .i64 x.num, sv x.text, .slice _ _ _]) rfl rfl ?_); intro b9; refine O_freezeBox hone ?_; intro H1 hle1 hc) | (show opsA _ _ _ _ (⟨some 8, .call _, _, _, _, _⟩ :: _) _ _; refine O_ef rfl (Ef_call (I := []) WideF.wide (kc _ hle1) ⟨rfl, trivial⟩ rfl ?_); rintro v2 H2 I2 hle2 ⟨rfl, rfl⟩) | (refine O_ev WideF.wide rfl (Ev_loadH rfl hc rfl) rfl rfl ?_) | refine O_nil ?_ | refine A_seq ?_ | refine A_region ?_ | refine A_ret ?_ | (show opsA _ _ _ _ _ _ _; first | refine O_ev WideF.wide rfl (Ev_pure rfl) rfl rfl ?_ | (show opsA _ _ _ _ (⟨_, .build _ _, _, _, _, _⟩ :: _) _ _; refine O_ev WideF.wide rfl (Ev_build (vs := []) trivial rfl) rfl rfl ?_) | (show opsA _ _ _ _ (⟨_, .alloc _, _, _, _, _⟩ :: _) _ _; (refine O_ef rfl (Ef_alloc WideF.wide rfl ?_); intro b)) | (show opsA _ _ _ _ (⟨_, .store _ _ _, _, _, _, _⟩ :: _) _ _; refine O_ef rfl (Ef_storew WideF.wide rfl rfl rfl rfl rfl ?_))) | (show wpA _ _ _ (.cond _ _ _) _ _ _ _; (refine A_if rfl (fun h => ?_) (fun h => ?_) <;> try (exfalso; omega))))
    all_goals first
      | (exfalso; omega)
      | (exfalso; contradiction)
      | (exfalso; exact absurd trivial (by assumption))
      | (exfalso; exact absurd rfl (by assumption))
      | exact End_e (RetC2 (i := 0) rfl rfl rfl rfl rfl) ⟨rfl, rfl⟩
      | trace_state
end Go.Proofs.YtnoadopmeoohmaaGreatDoor
