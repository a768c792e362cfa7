/-
  The law's put; its splices, plain. Printed by genU14.py.
-/
import Derived.Test.YtofkolbnhcckkaaGreatU13
namespace Go.Proofs.YtofkolbnhcckkaaGreat
open Go
set_option linter.unusedVariables false
set_option linter.unusedSimpArgs false
def itT (t : List UInt8) : Item := .mk 1 0 0 t head0 [] []
abbrev itTc (t : List UInt8) : List Value := [.int .i64 1, .int .i64 0, .int .i64 0, sv t, nilV, .int .i64 0, .int .i64 0, nilV, nilV, nilV, nilV]
theorem itTH (H : Hp) (t : List UInt8) : ItemH H (itTc t) (itT t) :=
  ItemH.of (x := itT t) (HRow.nil' H 2) (HRow.nil' H 2) (HRow.nil' H 4) (FlowH.nil H) ⟨[], HRow.nil' H 6, .nil⟩
theorem itT_one (t : List UInt8) : ∀ cs ∈ [itTc t], ∀ u ∈ cs, u.oneCell' = true := by
  intro cs hcs u hu
  rw [List.mem_singleton.1 hcs] at hu
  exact ItemH.one (itTH (fun _ _ => none) t) u hu
def txP (t : List UInt8) : Piece := if t = [] then zPiece else ⟨[itT t], [], [], head0, sett0⟩
def putS (a : Int) (o n : List UInt8) : Splice := ⟨1, 0, a, 0, txP o, txP n⟩
abbrev txL (a : Option Addr) (n c : Nat) : List Value := [.slice a n c, nilV, nilV, nilV, .int .i64 0, .int .i64 0, nilV, nilV, nilV, nilV, nilV, nilV]
theorem txH {H : Hp} {a : Option Addr} {c : Nat} {t : List UInt8} (ht : t ≠ []) (hr : HRow H a 1 c 11 [itTc t]) : PieceH H (txL a 1 c) (txP t) := by
  unfold txP
  rw [if_neg ht]
  exact ⟨a, 1, c, none, 0, 0, none, 0, 0, zHead, [nilV, nilV, nilV, nilV], rfl, ⟨[itTc t], hr, .cons (itTH H t) .nil⟩, ⟨[], HRow.nil' H 6, .nil⟩, ⟨[], HRow.nil' H 7, .nil⟩, zHeadH H, sett0H H⟩
theorem txH0 {H : Hp} {t : List UInt8} (ht : t = []) : PieceH H (txL none 0 0) (txP t) := by
  unfold txP
  rw [if_pos ht]
  exact zPieceH H
theorem txP_fine {t : List UInt8} (h : t.length < 1000) : (txP t).fine := by
  unfold txP
  split
  · exact zSpl_fine.1
  · refine ⟨?_, zSpl_fine.1.2⟩
    have e : massL [itT t] = 1 + t.length := by simp [massL, itT, Item.mass, massR, Head.mass, head0]
    simp only [e, massR, massC, Head.mass, head0, List.length_nil]
    omega
theorem putS_fine {a : Int} {o n : List UInt8} (h1 : o.length < 1000) (h2 : n.length < 1000) : (putS a o n).fine := ⟨txP_fine h1, txP_fine h2⟩
attribute [local irreducible] wpA opsA drJ drQ drE Ef Ev Shift Fn
set_option maxRecDepth 100000 in
set_option maxHeartbeats 4000000 in
theorem put_fn {H : Hp} {a : Int} {o n : List UInt8} : Fn Tryz.prog 11 [.int .i64 a, sv o, sv n] H [] fun v H' I => (∃ cs, v = .agg cs.toArray ∧ SplH H' cs (putS a o n)) ∧ I = [] := by

  by_cases ho : o = []
  · by_cases hn : n = []
    · refine Fn_of _ _ Tryz.func11 rfl Tryz.ntmps11 rfl fun c => ?_
      repeat' (first | (refine O_ef rfl (Ef_build1a WideF.wide rfl rfl rfl rfl rfl ?_); intro bo; refine O_freeze (css := [itTc o]) (itT_one o) ?_; intro HA hleA hrA) | (refine O_ef rfl (Ef_build1a WideF.wide rfl rfl rfl rfl rfl ?_); intro bn; refine O_freeze (css := [itTc n]) (itT_one n) ?_; intro HB hleB hrB) | refine O_nil ?_ | refine A_seq ?_ | refine A_region ?_ | refine A_skip ?_ | refine A_ret ?_ | (show opsA _ _ _ _ _ _ _; first | refine O_ev WideF.wide rfl (Ev_pure rfl) rfl rfl ?_ | (show opsA _ _ _ _ (⟨_, .load _ _, _, _, _, _⟩ :: _) _ _; refine O_ev WideF.wide rfl (Ev_loadB (i := 0) rfl rfl rfl) rfl rfl ?_) | (show opsA _ _ _ _ (⟨_, .fieldAddr _ _ _, _, _, _, _⟩ :: _) _ _; refine O_ev WideF.wide rfl (Ev_fieldAddr rfl rfl rfl) rfl rfl ?_) | (show opsA _ _ _ _ (⟨_, .binOp _ _ _ _ _, _, _, _, _⟩ :: _) _ _; refine O_ev WideF.wide rfl (Ev_sneq rfl rfl) rfl rfl ?_) | (show opsA _ _ _ _ (⟨_, .build _ _, _, _, _, _⟩ :: _) _ _; refine O_ev WideF.wide rfl (Ev_build (vs := [(_, _), (_, _)]) ⟨rfl, rfl, rfl, rfl, trivial⟩ rfl) rfl rfl ?_) | (show opsA _ _ _ _ (⟨_, .alloc _, _, _, _, _⟩ :: _) _ _; (refine O_ef rfl (Ef_alloc WideF.wide rfl ?_); intro b)) | (show opsA _ _ _ _ (⟨_, .store _ _ _, _, _, _, _⟩ :: _) _ _; first | refine O_ef rfl (Ef_storew WideF.wide rfl rfl rfl rfl rfl ?_) | refine O_ef rfl (Ef_store1 WideF.wide rfl rfl rfl rfl rfl ?_) | refine O_f1 (O_ef rfl (Ef_storew WideF.wide rfl rfl rfl rfl rfl ?_)))) | (show wpA _ _ _ (.cond _ _ _) _ _ _ _; (refine A_if rfl (fun h => ?_) (fun h => ?_) <;> try (exfalso; omega))))
      all_goals first
        | (exfalso; exact (by assumption : ¬ _) ho)
        | (exfalso; exact ho (Decidable.not_not.1 (by assumption)))
        | (exfalso; exact (by assumption : ¬ _) hn)
        | (exfalso; exact hn (Decidable.not_not.1 (by assumption)))
        | exact End_e (RetC rfl rfl (i := 0) rfl rfl) ⟨⟨_, rfl, ⟨⟨txL none 0 0, txL none 0 0, rfl, (txH0 ho), (txH0 hn)⟩⟩⟩, rfl⟩
        | exact End_e (RetC rfl rfl (i := 1) rfl rfl) ⟨⟨_, rfl, ⟨⟨txL none 0 0, txL none 0 0, rfl, (txH0 ho), (txH0 hn)⟩⟩⟩, rfl⟩
        | trace_state
    · refine Fn_of _ _ Tryz.func11 rfl Tryz.ntmps11 rfl fun c => ?_
      repeat' (first | (refine O_ef rfl (Ef_build1a WideF.wide rfl rfl rfl rfl rfl ?_); intro bo; refine O_freeze (css := [itTc o]) (itT_one o) ?_; intro HA hleA hrA) | (refine O_ef rfl (Ef_build1a WideF.wide rfl rfl rfl rfl rfl ?_); intro bn; refine O_freeze (css := [itTc n]) (itT_one n) ?_; intro HB hleB hrB) | refine O_nil ?_ | refine A_seq ?_ | refine A_region ?_ | refine A_skip ?_ | refine A_ret ?_ | (show opsA _ _ _ _ _ _ _; first | refine O_ev WideF.wide rfl (Ev_pure rfl) rfl rfl ?_ | (show opsA _ _ _ _ (⟨_, .load _ _, _, _, _, _⟩ :: _) _ _; refine O_ev WideF.wide rfl (Ev_loadB (i := 0) rfl rfl rfl) rfl rfl ?_) | (show opsA _ _ _ _ (⟨_, .fieldAddr _ _ _, _, _, _, _⟩ :: _) _ _; refine O_ev WideF.wide rfl (Ev_fieldAddr rfl rfl rfl) rfl rfl ?_) | (show opsA _ _ _ _ (⟨_, .binOp _ _ _ _ _, _, _, _, _⟩ :: _) _ _; refine O_ev WideF.wide rfl (Ev_sneq rfl rfl) rfl rfl ?_) | (show opsA _ _ _ _ (⟨_, .build _ _, _, _, _, _⟩ :: _) _ _; refine O_ev WideF.wide rfl (Ev_build (vs := [(_, _), (_, _)]) ⟨rfl, rfl, rfl, rfl, trivial⟩ rfl) rfl rfl ?_) | (show opsA _ _ _ _ (⟨_, .alloc _, _, _, _, _⟩ :: _) _ _; (refine O_ef rfl (Ef_alloc WideF.wide rfl ?_); intro b)) | (show opsA _ _ _ _ (⟨_, .store _ _ _, _, _, _, _⟩ :: _) _ _; first | refine O_ef rfl (Ef_storew WideF.wide rfl rfl rfl rfl rfl ?_) | refine O_ef rfl (Ef_store1 WideF.wide rfl rfl rfl rfl rfl ?_) | refine O_f1 (O_ef rfl (Ef_storew WideF.wide rfl rfl rfl rfl rfl ?_)))) | (show wpA _ _ _ (.cond _ _ _) _ _ _ _; (refine A_if rfl (fun h => ?_) (fun h => ?_) <;> try (exfalso; omega))))
      all_goals first
        | (exfalso; exact (by assumption : ¬ _) ho)
        | (exfalso; exact ho (Decidable.not_not.1 (by assumption)))
        | (exfalso; exact (by assumption : ¬ _) hn)
        | (exfalso; exact hn (Decidable.not_not.1 (by assumption)))
        | exact End_e (RetC rfl rfl (i := 0) rfl rfl) ⟨⟨_, rfl, ⟨⟨txL none 0 0, txL _ 1 1, rfl, (txH0 ho), (txH hn hrB)⟩⟩⟩, rfl⟩
        | exact End_e (RetC rfl rfl (i := 1) rfl rfl) ⟨⟨_, rfl, ⟨⟨txL none 0 0, txL _ 1 1, rfl, (txH0 ho), (txH hn hrB)⟩⟩⟩, rfl⟩
        | trace_state
  · by_cases hn : n = []
    · refine Fn_of _ _ Tryz.func11 rfl Tryz.ntmps11 rfl fun c => ?_
      repeat' (first | (refine O_ef rfl (Ef_build1a WideF.wide rfl rfl rfl rfl rfl ?_); intro bo; refine O_freeze (css := [itTc o]) (itT_one o) ?_; intro HA hleA hrA) | (refine O_ef rfl (Ef_build1a WideF.wide rfl rfl rfl rfl rfl ?_); intro bn; refine O_freeze (css := [itTc n]) (itT_one n) ?_; intro HB hleB hrB) | refine O_nil ?_ | refine A_seq ?_ | refine A_region ?_ | refine A_skip ?_ | refine A_ret ?_ | (show opsA _ _ _ _ _ _ _; first | refine O_ev WideF.wide rfl (Ev_pure rfl) rfl rfl ?_ | (show opsA _ _ _ _ (⟨_, .load _ _, _, _, _, _⟩ :: _) _ _; refine O_ev WideF.wide rfl (Ev_loadB (i := 0) rfl rfl rfl) rfl rfl ?_) | (show opsA _ _ _ _ (⟨_, .fieldAddr _ _ _, _, _, _, _⟩ :: _) _ _; refine O_ev WideF.wide rfl (Ev_fieldAddr rfl rfl rfl) rfl rfl ?_) | (show opsA _ _ _ _ (⟨_, .binOp _ _ _ _ _, _, _, _, _⟩ :: _) _ _; refine O_ev WideF.wide rfl (Ev_sneq rfl rfl) rfl rfl ?_) | (show opsA _ _ _ _ (⟨_, .build _ _, _, _, _, _⟩ :: _) _ _; refine O_ev WideF.wide rfl (Ev_build (vs := [(_, _), (_, _)]) ⟨rfl, rfl, rfl, rfl, trivial⟩ rfl) rfl rfl ?_) | (show opsA _ _ _ _ (⟨_, .alloc _, _, _, _, _⟩ :: _) _ _; (refine O_ef rfl (Ef_alloc WideF.wide rfl ?_); intro b)) | (show opsA _ _ _ _ (⟨_, .store _ _ _, _, _, _, _⟩ :: _) _ _; first | refine O_ef rfl (Ef_storew WideF.wide rfl rfl rfl rfl rfl ?_) | refine O_ef rfl (Ef_store1 WideF.wide rfl rfl rfl rfl rfl ?_) | refine O_f1 (O_ef rfl (Ef_storew WideF.wide rfl rfl rfl rfl rfl ?_)))) | (show wpA _ _ _ (.cond _ _ _) _ _ _ _; (refine A_if rfl (fun h => ?_) (fun h => ?_) <;> try (exfalso; omega))))
      all_goals first
        | (exfalso; exact (by assumption : ¬ _) ho)
        | (exfalso; exact ho (Decidable.not_not.1 (by assumption)))
        | (exfalso; exact (by assumption : ¬ _) hn)
        | (exfalso; exact hn (Decidable.not_not.1 (by assumption)))
        | exact End_e (RetC rfl rfl (i := 0) rfl rfl) ⟨⟨_, rfl, ⟨⟨txL _ 1 1, txL none 0 0, rfl, (txH ho hrA), (txH0 hn)⟩⟩⟩, rfl⟩
        | exact End_e (RetC rfl rfl (i := 1) rfl rfl) ⟨⟨_, rfl, ⟨⟨txL _ 1 1, txL none 0 0, rfl, (txH ho hrA), (txH0 hn)⟩⟩⟩, rfl⟩
        | trace_state
    · refine Fn_of _ _ Tryz.func11 rfl Tryz.ntmps11 rfl fun c => ?_
      repeat' (first | (refine O_ef rfl (Ef_build1a WideF.wide rfl rfl rfl rfl rfl ?_); intro bo; refine O_freeze (css := [itTc o]) (itT_one o) ?_; intro HA hleA hrA) | (refine O_ef rfl (Ef_build1a WideF.wide rfl rfl rfl rfl rfl ?_); intro bn; refine O_freeze (css := [itTc n]) (itT_one n) ?_; intro HB hleB hrB) | refine O_nil ?_ | refine A_seq ?_ | refine A_region ?_ | refine A_skip ?_ | refine A_ret ?_ | (show opsA _ _ _ _ _ _ _; first | refine O_ev WideF.wide rfl (Ev_pure rfl) rfl rfl ?_ | (show opsA _ _ _ _ (⟨_, .load _ _, _, _, _, _⟩ :: _) _ _; refine O_ev WideF.wide rfl (Ev_loadB (i := 0) rfl rfl rfl) rfl rfl ?_) | (show opsA _ _ _ _ (⟨_, .fieldAddr _ _ _, _, _, _, _⟩ :: _) _ _; refine O_ev WideF.wide rfl (Ev_fieldAddr rfl rfl rfl) rfl rfl ?_) | (show opsA _ _ _ _ (⟨_, .binOp _ _ _ _ _, _, _, _, _⟩ :: _) _ _; refine O_ev WideF.wide rfl (Ev_sneq rfl rfl) rfl rfl ?_) | (show opsA _ _ _ _ (⟨_, .build _ _, _, _, _, _⟩ :: _) _ _; refine O_ev WideF.wide rfl (Ev_build (vs := [(_, _), (_, _)]) ⟨rfl, rfl, rfl, rfl, trivial⟩ rfl) rfl rfl ?_) | (show opsA _ _ _ _ (⟨_, .alloc _, _, _, _, _⟩ :: _) _ _; (refine O_ef rfl (Ef_alloc WideF.wide rfl ?_); intro b)) | (show opsA _ _ _ _ (⟨_, .store _ _ _, _, _, _, _⟩ :: _) _ _; first | refine O_ef rfl (Ef_storew WideF.wide rfl rfl rfl rfl rfl ?_) | refine O_ef rfl (Ef_store1 WideF.wide rfl rfl rfl rfl rfl ?_) | refine O_f1 (O_ef rfl (Ef_storew WideF.wide rfl rfl rfl rfl rfl ?_)))) | (show wpA _ _ _ (.cond _ _ _) _ _ _ _; (refine A_if rfl (fun h => ?_) (fun h => ?_) <;> try (exfalso; omega))))
      all_goals first
        | (exfalso; exact (by assumption : ¬ _) ho)
        | (exfalso; exact ho (Decidable.not_not.1 (by assumption)))
        | (exfalso; exact (by assumption : ¬ _) hn)
        | (exfalso; exact hn (Decidable.not_not.1 (by assumption)))
        | exact End_e (RetC rfl rfl (i := 0) rfl rfl) ⟨⟨_, rfl, ⟨⟨txL _ 1 1, txL _ 1 1, rfl, ((txH ho hrA).mono hleB), (txH hn hrB)⟩⟩⟩, rfl⟩
        | exact End_e (RetC rfl rfl (i := 1) rfl rfl) ⟨⟨_, rfl, ⟨⟨txL _ 1 1, txL _ 1 1, rfl, ((txH ho hrA).mono hleB), (txH hn hrB)⟩⟩⟩, rfl⟩
        | trace_state

end Go.Proofs.YtofkolbnhcckkaaGreat
