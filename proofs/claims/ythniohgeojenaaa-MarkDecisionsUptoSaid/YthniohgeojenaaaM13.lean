/-
  The law's keysOf, layersOf, states.
-/
import Derived.Test.YthniohgeojenaaaM11
namespace Go.Proofs.Ythniohgeojenaaa
open Go
set_option linter.unusedVariables false
set_option linter.unusedSimpArgs false
def keyStep (o : List Int) (y : Layr) : List Int := if y.key ∈ o then o else o ++ [y.key]
def keysL (l : List Layr) : List Int := l.foldl keyStep []
def layersK (l : List Layr) (k : Int) : List Layr := l.filter (fun y => y.key = k)
theorem keysL_snoc (l : List Layr) (y : Layr) : keysL (l ++ [y]) = keyStep (keysL l) y := by simp [keysL]
theorem foldK_len : ∀ (l : List Layr) (o : List Int), (l.foldl keyStep o).length ≤ o.length + l.length
  | [], o => by simp
  | y :: r, o => by
    have h := foldK_len r (keyStep o y)
    have : (keyStep o y).length ≤ o.length + 1 := by unfold keyStep; split <;> simp
    simp only [List.foldl_cons, List.length_cons]; omega
theorem keysL_len (l : List Layr) : (keysL l).length ≤ l.length := by have := foldK_len l []; simpa [keysL] using this
attribute [local irreducible] wpA opsA drJ drQ drE Ef Ev Shift Fn
/-- layers that were handed back -/
def LayersIs (l : List Layr) (v : Value) (H : Hp) (I : Own) : Prop := (∃ a n c, v = .slice a n c ∧ HRow H a n c 4 (l.map lrow)) ∧ I = []
def StatesIs (l : List St) (v : Value) (H : Hp) (I : Own) : Prop := (∃ a n c, v = .slice a n c ∧ HRow H a n c 2 (l.map stc)) ∧ I = []
set_option maxRecDepth 100000 in
set_option maxHeartbeats 2000000 in
theorem keysOf_fn {H : Hp} {hcs : List Value} {q : Head} (hh : HeadH H hcs q) (hl : q.mass < 1073741824) : Fn Try.prog 25 [.agg hcs.toArray] H [] (IntsIs (keysL q.layers)) := by
  obtain ⟨pa, pn, pc, da, dn, dc, la, ln, lc, rfl, h1, h2, h3⟩ := hh.ex
  have l3 := h3.len
  simp only [List.length_map] at l3
  unfold Head.mass at hl
  refine Fn_of _ _ Try.func25 rfl Try.ntmps25 rfl fun c => ?_
  refine A_seq ?_
  refine A_cutu (fun s => ∃ b1, s = ⟨34, [(1, ptr b1)], H, [.box b1 [.slice pa pn pc, .int .i64 q.ins, .int .i64 q.move, .slice da dn dc, .slice la ln lc]], [], []⟩) ?_ ?_
  · repeat' (first | refine O_nil ?_ | refine A_region ?_ | (show opsA _ _ _ _ _ _ _; first | refine O_ev WideF.wide rfl (Ev_pure rfl) rfl rfl ?_ | (show opsA _ _ _ _ (⟨_, .box _ _, _, _, _, _⟩ :: _) _ _; (refine O_ef rfl (Ef_boxa WideF.wide rfl rfl ?_); intro b))))
    exact Shift.to ⟨_, rfl⟩ ⟨rfl, rfl, rfl, ⟨rfl, trivial⟩, Own.subi [0] (by decide) rfl rfl⟩
  rintro s ⟨b1, rfl⟩
  refine A_freezeBox (by intro u hu; simp at hu; rcases hu with rfl | rfl | rfl | rfl | rfl <;> rfl) ?_
  intro H1 hle1 hb1
  have h3 := h3.mono hle1
  refine A_nilrow 1 ?_
  repeat' (first | refine O_nil ?_ | refine A_seq ?_ | refine A_region ?_ | refine A_block ?_ | (show opsA _ _ _ _ _ _ _; refine O_ev WideF.wide rfl (Ev_pure rfl) rfl rfl ?_))
  refine A_loopu (fun m s => ∃ (i : Nat) (a : Option Addr) (n c : Nat) (p : List (List Value)), m = ln - i ∧ i ≤ ln ∧ p.length = n ∧ p = (keysL (q.layers.take i)).map irow ∧ s = ⟨34, [(1, ptr b1), (3, .slice a n c), (4, .int .i64 i)], H1, [.row (.slice a n c) 1 p], [], []⟩) ?_ ?_
  · exact Shift.to ⟨_, 0, none, 0, 0, [], rfl, by omega, rfl, by simp [keysL], rfl⟩ ⟨rfl, rfl, rfl, ⟨rfl, rfl, rfl, trivial⟩, Own.subi [0] (by decide) rfl rfl⟩
  · rintro m s ⟨i, a, n, cc, p, rfl, hi, hpn, hpp, rfl⟩
    have hkl := keysL_len (q.layers.take i)
    rw [List.length_take] at hkl
    have hpl : p.length = (keysL (q.layers.take i)).length := by rw [hpp]; simp
    by_cases hlt : i < ln
    · obtain ⟨b', o, y, rfl, hyi, hc⟩ := h3.atm i hlt
      unfold lrow at hc
      have hsn : keysL (q.layers.take (i + 1)) = keyStep (keysL (q.layers.take i)) y := by rw [take_get hyi, keysL_snoc]
      generalize hO : keysL (q.layers.take i) = O at hpp hpl hsn hkl
      subst hpp
      have hhas := fun Hx => lhasO_fn (H := Hx) (a := a) (n := n) (cq := cc) (l := O) (x := y.key) (by omega)
      by_cases hin : y.key ∈ O
      · have hst : keyStep O y = O := by unfold keyStep; rw [if_pos hin]
        rw [decide_eq_true hin] at hhas
        repeat' (first | (refine O_ev WideF.wide rfl (Ev_loadH1 rfl (hb1 4 _ rfl)) rfl rfl ?_) | (refine O_ev WideF.wide rfl (Ev_loadH1 rfl (hc 1 _ rfl)) rfl rfl ?_) | (refine O_ef rfl (Ef_call0 WideF.wide (hhas _) ⟨rfl, rfl, trivial⟩ rfl ?_); rintro v H2 I2 hle2 ⟨rfl, rfl, rfl⟩) | refine O_nil ?_ | refine A_seq ?_ | refine A_region ?_ | refine A_skip ?_ | refine A_block ?_ | (show opsA _ _ _ _ _ _ _; first | refine O_ev WideF.wide rfl (Ev_pure rfl) rfl rfl ?_ | (show opsA _ _ _ _ (⟨_, .indexAddr _ _ _, _, _, _, _⟩ :: _) _ _; refine O_ev WideF.wide rfl (Ev_indexAddr rfl rfl (by omega) (by omega)) rfl rfl ?_) | (show opsA _ _ _ _ (⟨_, .fieldAddr _ _ _, _, _, _, _⟩ :: _) _ _; refine O_ev WideF.wide rfl (Ev_fieldAddr rfl rfl rfl) rfl rfl ?_) | (show opsA _ _ _ _ (⟨_, .call _, _, _, _, _⟩ :: _) _ _; refine O_ev WideF.wide rfl (Ev_llen rfl) rfl rfl ?_) | (show opsA _ _ _ _ (⟨_, .binOp _ _ _ _ _, _, _, _, _⟩ :: _) _ _; refine O_ev WideF.wide rfl (Ev_add rfl rfl (wi64 (by omega))) rfl rfl ?_) | (show opsA _ _ _ _ (⟨_, .unOp _ _ _, _, _, _, _⟩ :: _) _ _; refine O_ev WideF.wide rfl (Ev_notb rfl) rfl rfl ?_)) | (show wpA _ _ _ (.cond _ _ _) _ _ _ _; first | (refine A_if rfl (fun h => ?_) (fun h => ?_) <;> try (exfalso; omega)) | refine A_iffalse rfl ?_))
        refine Shift.to ⟨_, ?_, i + 1, a, n, cc, O.map irow, rfl, by omega, hpn, by rw [hsn, hst], rfl⟩ ⟨rfl, rfl, rfl, ⟨rfl, rfl, rfl, trivial⟩, Own.subi [0] (by decide) rfl rfl⟩
        omega
      · have hst : keyStep O y = O ++ [y.key] := by unfold keyStep; rw [if_neg hin]
        rw [decide_eq_false hin] at hhas
        repeat' (first | (refine O_ev WideF.wide rfl (Ev_loadH1 rfl (hb1 4 _ rfl)) rfl rfl ?_) | (refine O_ev WideF.wide rfl (Ev_loadH1 rfl (hc 1 _ rfl)) rfl rfl ?_) | (refine O_ef rfl (Ef_call0 WideF.wide (hhas _) ⟨rfl, rfl, trivial⟩ rfl ?_); rintro v H2 I2 hle2 ⟨rfl, rfl, rfl⟩) | refine O_nil ?_ | refine A_seq ?_ | refine A_region ?_ | refine A_skip ?_ | refine A_block ?_ | (show opsA _ _ _ _ _ _ _; first | refine O_ev WideF.wide rfl (Ev_pure rfl) rfl rfl ?_ | (show opsA _ _ _ _ (⟨_, .indexAddr _ _ _, _, _, _, _⟩ :: _) _ _; refine O_ev WideF.wide rfl (Ev_indexAddr rfl rfl (by omega) (by omega)) rfl rfl ?_) | (show opsA _ _ _ _ (⟨_, .fieldAddr _ _ _, _, _, _, _⟩ :: _) _ _; refine O_ev WideF.wide rfl (Ev_fieldAddr rfl rfl rfl) rfl rfl ?_) | (show opsA _ _ _ _ (⟨_, .call _, _, _, _, _⟩ :: _) _ _; first | refine O_ev WideF.wide rfl (Ev_llen rfl) rfl rfl ?_ | (refine O_f1 (O_ef rfl (Ef_appendR WideF.wide rfl rfl rfl rfl rfl (by simp; omega) (by simp; omega) rfl ?_)); intro a cp)) | (show opsA _ _ _ _ (⟨_, .buildSlice _ _ _, _, _, _, _⟩ :: _) _ _; (refine O_ef rfl (Ef_build11 WideF.wide rfl rfl rfl ?_); intro b)) | (show opsA _ _ _ _ (⟨_, .binOp _ _ _ _ _, _, _, _, _⟩ :: _) _ _; refine O_ev WideF.wide rfl (Ev_add rfl rfl (wi64 (by omega))) rfl rfl ?_) | (show opsA _ _ _ _ (⟨_, .unOp _ _ _, _, _, _, _⟩ :: _) _ _; refine O_ev WideF.wide rfl (Ev_notb rfl) rfl rfl ?_)) | (show wpA _ _ _ (.cond _ _ _) _ _ _ _; first | (refine A_if rfl (fun h => ?_) (fun h => ?_) <;> try (exfalso; omega)) | refine A_iftrue rfl ?_))
        refine Shift.to ⟨_, ?_, i + 1, _, _, _, O.map irow ++ [irow y.key], rfl, by omega, rfl, by rw [hsn, hst]; simp, rfl⟩ ⟨rfl, rfl, rfl, ⟨rfl, rfl, rfl, trivial⟩, Own.subi [0] (by decide) rfl rfl⟩
        omega
    · have hin : ln = i := by omega
      subst hin
      rw [List.take_of_length_le (by omega)] at hpp
      repeat' (first | (refine O_ev WideF.wide rfl (Ev_loadH1 rfl (hb1 4 _ rfl)) rfl rfl ?_) | refine O_nil ?_ | refine A_seq ?_ | refine A_region ?_ | refine A_ret ?_ | (show opsA _ _ _ _ _ _ _; first | refine O_ev WideF.wide rfl (Ev_pure rfl) rfl rfl ?_ | (show opsA _ _ _ _ (⟨_, .fieldAddr _ _ _, _, _, _, _⟩ :: _) _ _; refine O_ev WideF.wide rfl (Ev_fieldAddr rfl rfl rfl) rfl rfl ?_) | (show opsA _ _ _ _ (⟨_, .call _, _, _, _, _⟩ :: _) _ _; refine O_ev WideF.wide rfl (Ev_llen rfl) rfl rfl ?_)) | (show wpA _ _ _ (.exit _) _ _ _ _; refine A_exit rfl ?_) | (show wpA _ _ _ (.cond _ _ _) _ _ _ _; (refine A_if rfl (fun h => ?_) (fun h => ?_) <;> try (exfalso; omega))))
      refine End_s (Ret1 rfl rfl) ?_
      refine Shift.lek ⟨34, [], H1, [.row (.slice a n cc) 1 p], [], []⟩ ⟨rfl, rfl, rfl, trivial, Own.subi [0] (by decide) rfl rfl⟩ ?_
      exact Shift_freeze (by rw [hpp]; exact irow_one _) fun H2 hle2 hr1 => Shift.pure ⟨rfl, ⟨a, n, cc, rfl, hr1.cong hpp.symm⟩, rfl⟩
theorem layersK_snoc (l : List Layr) (k : Int) (y : Layr) : layersK (l ++ [y]) k = if y.key = k then layersK l k ++ [y] else layersK l k := by
  unfold layersK
  rw [List.filter_append]
  by_cases h : y.key = k <;> simp [h]
set_option maxRecDepth 100000 in
set_option maxHeartbeats 2000000 in
theorem layersOf_fn {H : Hp} {hcs : List Value} {q : Head} {k : Int} (hh : HeadH H hcs q) (hl : q.mass < 1073741824) : Fn Try.prog 44 [.agg hcs.toArray, .int .i64 k] H [] (LayersIs (layersK q.layers k)) := by
  obtain ⟨pa, pn, pc, da, dn, dc, la, ln, lc, rfl, h1, h2, h3⟩ := hh.ex
  have l3 := h3.len
  simp only [List.length_map] at l3
  unfold Head.mass at hl
  refine Fn_of _ _ Try.func44 rfl Try.ntmps44 rfl fun c => ?_
  refine A_seq ?_
  refine A_cutu (fun s => ∃ b2, s = ⟨34, [(1, .int .i64 k), (2, ptr b2)], H, [.box b2 [.slice pa pn pc, .int .i64 q.ins, .int .i64 q.move, .slice da dn dc, .slice la ln lc]], [], []⟩) ?_ ?_
  · repeat' (first | refine O_nil ?_ | refine A_region ?_ | (show opsA _ _ _ _ _ _ _; first | refine O_ev WideF.wide rfl (Ev_pure rfl) rfl rfl ?_ | (show opsA _ _ _ _ (⟨_, .box _ _, _, _, _, _⟩ :: _) _ _; (refine O_ef rfl (Ef_boxa WideF.wide rfl rfl ?_); intro b))))
    exact Shift.to ⟨_, rfl⟩ ⟨rfl, rfl, rfl, ⟨rfl, rfl, trivial⟩, Own.subi [0] (by decide) rfl rfl⟩
  rintro s ⟨b2, rfl⟩
  refine A_freezeBox (by intro u hu; simp at hu; rcases hu with rfl | rfl | rfl | rfl | rfl <;> rfl) ?_
  intro H1 hle1 hb1
  have h3 := h3.mono hle1
  refine A_nilrow 4 ?_
  repeat' (first | refine O_nil ?_ | refine A_seq ?_ | refine A_region ?_ | refine A_block ?_ | (show opsA _ _ _ _ _ _ _; refine O_ev WideF.wide rfl (Ev_pure rfl) rfl rfl ?_))
  refine A_loopu (fun m s => ∃ (i : Nat) (a : Option Addr) (n c : Nat) (p : List (List Value)), m = ln - i ∧ i ≤ ln ∧ p.length = n ∧ n ≤ i ∧ p = (layersK (q.layers.take i) k).map lrow ∧ s = ⟨34, [(1, .int .i64 k), (2, ptr b2), (5, .slice a n c), (6, .int .i64 i)], H1, [.row (.slice a n c) 4 p], [], []⟩) ?_ ?_
  · exact Shift.to ⟨_, 0, none, 0, 0, [], rfl, by omega, rfl, by omega, by simp [layersK], rfl⟩ ⟨rfl, rfl, rfl, ⟨rfl, rfl, rfl, rfl, trivial⟩, Own.subi [0] (by decide) rfl rfl⟩
  · rintro m s ⟨i, a, n, cc, p, rfl, hi, hpn, hni, hpp, rfl⟩
    by_cases hlt : i < ln
    · obtain ⟨b', o, y, rfl, hyi, hc⟩ := h3.atm i hlt
      have hcy := hc
      unfold lrow at hcy
      have hsn := layersK_snoc (q.layers.take i) k y
      rw [← take_get hyi] at hsn
      by_cases hin : y.key = k
      · rw [if_pos hin] at hsn
        repeat' (first | (refine O_ev WideF.wide rfl (Ev_loadH1 rfl (hb1 4 _ rfl)) rfl rfl ?_) | (refine O_ev WideF.wide rfl (Ev_loadH1 rfl (hc 1 _ rfl)) rfl rfl ?_) | (refine O_ev WideF.wide rfl (Ev_loadH rfl hcy rfl) rfl rfl ?_) | refine O_nil ?_ | refine A_seq ?_ | refine A_region ?_ | refine A_skip ?_ | refine A_block ?_ | (show opsA _ _ _ _ _ _ _; first | refine O_ev WideF.wide rfl (Ev_pure rfl) rfl rfl ?_ | (show opsA _ _ _ _ (⟨_, .indexAddr _ _ _, _, _, _, _⟩ :: _) _ _; refine O_ev WideF.wide rfl (Ev_indexAddr rfl rfl (by omega) (by omega)) rfl rfl ?_) | (show opsA _ _ _ _ (⟨_, .fieldAddr _ _ _, _, _, _, _⟩ :: _) _ _; refine O_ev WideF.wide rfl (Ev_fieldAddr rfl rfl rfl) rfl rfl ?_) | (show opsA _ _ _ _ (⟨_, .call _, _, _, _, _⟩ :: _) _ _; first | refine O_ev WideF.wide rfl (Ev_llen rfl) rfl rfl ?_ | (refine O_f1 (O_ef rfl (Ef_appendR WideF.wide rfl rfl rfl rfl rfl (by simp; omega) (by simp; omega) rfl ?_)); intro a cp)) | (show opsA _ _ _ _ (⟨_, .buildSlice _ _ _, _, _, _, _⟩ :: _) _ _; (refine O_ef rfl (Ef_build1a WideF.wide rfl rfl rfl rfl rfl ?_); intro b)) | (show opsA _ _ _ _ (⟨_, .binOp _ _ _ _ _, _, _, _, _⟩ :: _) _ _; refine O_ev WideF.wide rfl (Ev_add rfl rfl (wi64 (by omega))) rfl rfl ?_)) | (show wpA _ _ _ (.cond _ _ _) _ _ _ _; (refine A_if rfl (fun h => ?_) (fun h => ?_) <;> try (exfalso; omega))))
        refine Shift.to ⟨_, ?_, i + 1, _, _, _, p ++ [lrow y], rfl, by omega, rfl, by simp; omega, by rw [hsn, hpp]; simp, rfl⟩ ⟨rfl, rfl, rfl, ⟨rfl, rfl, rfl, rfl, trivial⟩, Own.subi [0] (by decide) rfl rfl⟩
        omega
      · rw [if_neg hin] at hsn
        repeat' (first | (refine O_ev WideF.wide rfl (Ev_loadH1 rfl (hb1 4 _ rfl)) rfl rfl ?_) | (refine O_ev WideF.wide rfl (Ev_loadH1 rfl (hc 1 _ rfl)) rfl rfl ?_) | refine O_nil ?_ | refine A_seq ?_ | refine A_region ?_ | refine A_skip ?_ | refine A_block ?_ | (show opsA _ _ _ _ _ _ _; first | refine O_ev WideF.wide rfl (Ev_pure rfl) rfl rfl ?_ | (show opsA _ _ _ _ (⟨_, .indexAddr _ _ _, _, _, _, _⟩ :: _) _ _; refine O_ev WideF.wide rfl (Ev_indexAddr rfl rfl (by omega) (by omega)) rfl rfl ?_) | (show opsA _ _ _ _ (⟨_, .fieldAddr _ _ _, _, _, _, _⟩ :: _) _ _; refine O_ev WideF.wide rfl (Ev_fieldAddr rfl rfl rfl) rfl rfl ?_) | (show opsA _ _ _ _ (⟨_, .call _, _, _, _, _⟩ :: _) _ _; refine O_ev WideF.wide rfl (Ev_llen rfl) rfl rfl ?_) | (show opsA _ _ _ _ (⟨_, .binOp _ _ _ _ _, _, _, _, _⟩ :: _) _ _; refine O_ev WideF.wide rfl (Ev_add rfl rfl (wi64 (by omega))) rfl rfl ?_)) | (show wpA _ _ _ (.cond _ _ _) _ _ _ _; (refine A_if rfl (fun h => ?_) (fun h => ?_) <;> try (exfalso; omega))))
        refine Shift.to ⟨_, ?_, i + 1, a, n, cc, p, rfl, by omega, hpn, by omega, by rw [hsn]; exact hpp, rfl⟩ ⟨rfl, rfl, rfl, ⟨rfl, rfl, rfl, rfl, trivial⟩, Own.subi [0] (by decide) rfl rfl⟩
        omega
    · have hin : ln = i := by omega
      subst hin
      rw [List.take_of_length_le (by omega)] at hpp
      repeat' (first | (refine O_ev WideF.wide rfl (Ev_loadH1 rfl (hb1 4 _ rfl)) rfl rfl ?_) | refine O_nil ?_ | refine A_seq ?_ | refine A_region ?_ | refine A_ret ?_ | (show opsA _ _ _ _ _ _ _; first | refine O_ev WideF.wide rfl (Ev_pure rfl) rfl rfl ?_ | (show opsA _ _ _ _ (⟨_, .fieldAddr _ _ _, _, _, _, _⟩ :: _) _ _; refine O_ev WideF.wide rfl (Ev_fieldAddr rfl rfl rfl) rfl rfl ?_) | (show opsA _ _ _ _ (⟨_, .call _, _, _, _, _⟩ :: _) _ _; refine O_ev WideF.wide rfl (Ev_llen rfl) rfl rfl ?_)) | (show wpA _ _ _ (.exit _) _ _ _ _; refine A_exit rfl ?_) | (show wpA _ _ _ (.cond _ _ _) _ _ _ _; (refine A_if rfl (fun h => ?_) (fun h => ?_) <;> try (exfalso; omega))))
      refine End_s (Ret1 rfl rfl) ?_
      refine Shift.lek ⟨34, [], H1, [.row (.slice a n cc) 4 p], [], []⟩ ⟨rfl, rfl, rfl, trivial, Own.subi [0] (by decide) rfl rfl⟩ ?_
      exact Shift_freeze (by rw [hpp]; exact lrow_one _) fun H2 hle2 hr1 => Shift.pure ⟨rfl, ⟨a, n, cc, rfl, hr1.cong hpp.symm⟩, rfl⟩
end Go.Proofs.Ythniohgeojenaaa
