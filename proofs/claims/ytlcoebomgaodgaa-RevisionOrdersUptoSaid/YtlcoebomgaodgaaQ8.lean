/-
  Select, Accept, Reject; the law's selects, insert, few, sameDecision.
-/
import Derived.Test.YtlcoebomgaodgaaQ7
namespace Go.Proofs.Ytlcoebomgaodgaa
open Go
set_option linter.unusedVariables false
set_option linter.unusedSimpArgs false
def selIds (l : List Rev) (f : Filt) : List Int := (l.filter (sel f)).map Rev.id
theorem selIds_snoc (l : List Rev) (f : Filt) (y : Rev) : selIds (l ++ [y]) f = if sel f y = true then selIds l f ++ [y.id] else selIds l f := by
  unfold selIds
  rw [List.filter_append]
  by_cases h : sel f y = true <;> simp [h]
theorem selIds_len (l : List Rev) (f : Filt) : (selIds l f).length ≤ l.length := by unfold selIds; rw [List.length_map]; exact List.length_filter_le _ _
/-- a decision that was handed back -/
def DecIs (acc rej : List Int) (v : Value) (H : Hp) (I : Own) : Prop := (∃ aa an ac ra rn rc, v = .agg [.slice aa an ac, .slice ra rn rc].toArray ∧ HRow H aa an ac 1 (acc.map irow) ∧ HRow H ra rn rc 1 (rej.map irow)) ∧ I = []
attribute [local irreducible] wpA opsA drJ drQ drE Ef Ev Shift Fn
set_option maxRecDepth 100000 in
set_option maxHeartbeats 1000000 in
theorem Select_fn {H : Hp} {a : Option Addr} {n cq : Nat} {l : List Rev} {cs : List Value} {f : Filt} (hx : HRow H a n cq 3 (l.map rrow)) (hf : FiltH H cs f) (hm : n < 1048576) : Fn Try.prog 24 [.slice a n cq, .agg cs.toArray] H [] (IntsIs (cmps (selIds l f))) := by
  have e1 : l.length = n := by have := hx.len; simpa using this
  have htest := test_fn hf
  obtain ⟨aa, an, ac, ia, iN, ic, rfl, _⟩ := hf.ex
  refine Fn_of _ _ Try.func24 rfl Try.ntmps24 rfl fun c => ?_
  refine A_nilrow 1 ?_
  repeat' (first | (refine O_ef rfl (Ef_call (I := []) WideF.wide htest ⟨rfl, trivial⟩ rfl ?_); rintro v H1 I1 hle1 ⟨⟨b2, rfl, ht⟩, rfl⟩) | refine O_nil ?_ | refine A_seq ?_ | refine A_region ?_ | refine A_block ?_ | (show opsA _ _ _ _ _ _ _; first | refine O_ev WideF.wide rfl (Ev_pure rfl) rfl rfl ?_ | (show opsA _ _ _ _ (⟨_, .load _ _, _, _, _, _⟩ :: _) _ _; refine O_ev WideF.wide rfl (Ev_loadB (i := 0) rfl rfl rfl) rfl rfl ?_) | (show opsA _ _ _ _ (⟨_, .call _, _, _, _, _⟩ :: _) _ _; refine O_ev WideF.wide rfl (Ev_llen rfl) rfl rfl ?_) | (show opsA _ _ _ _ (⟨_, .box _ _, _, _, _, _⟩ :: _) _ _; (refine O_ef rfl (Ef_boxa WideF.wide rfl rfl ?_); intro b))))
  refine A_loopu (fun m st => ∃ (k : Nat) (b : Option Addr) (q c' : Nat) (p : List (List Value)) (H2 : Hp), m = n - k ∧ k ≤ n ∧ p.length = q ∧ p = (selIds (l.take k) f).map irow ∧ HLe H1 H2 ∧ st = ⟨30, [(5, .slice b q c'), (6, cval 75 b2), (11, .slice a n cq), (12, .int .i64 (n : Int)), (13, .int .i64 (k : Int))], H2, [.row (.slice b q c') 1 p], [], []⟩) ?_ ?_
  · exact Shift.to ⟨_, 0, none, 0, 0, [], H1, rfl, by omega, rfl, rfl, HLe.refl _, rfl⟩ ⟨rfl, rfl, rfl, ⟨rfl, rfl, rfl, rfl, rfl, trivial⟩, Own.subi [1] (by decide) rfl rfl⟩
  · rintro m st ⟨k, b, q, c', p, H2, rfl, hk, hpn, hp, hle, rfl⟩
    have hpl : p.length ≤ k := by rw [hp, List.length_map]; have := selIds_len (l.take k) f; rw [List.length_take] at this; omega
    by_cases hlt : k < n
    · obtain ⟨b1, o1, y, ha, hy, hc⟩ := ((hx.mono hle1).mono hle).atm k hlt
      have hb1 := both1_fn (r := y) (ht.mono hle)
      have hsn := selIds_snoc (l.take k) f y
      rw [← take_get hy] at hsn
      unfold rrow at hc hb1
      subst ha
      by_cases hs : sel f y = true
      · rw [if_pos hs] at hsn
        rw [hs] at hb1
        repeat' (first | (refine O_ev WideF.wide rfl (Ev_loadH rfl hc rfl) rfl rfl ?_) | (refine O_ef rfl (Ef_callc (I := []) (args := [_]) (caps := [_]) WideF.wide hb1 rfl ⟨rfl, trivial⟩ rfl ?_); rintro v H3 I3 hle3 ⟨rfl, rfl⟩) | refine O_nil ?_ | refine A_seq ?_ | refine A_region ?_ | refine A_skip ?_ | refine A_block ?_ | (show opsA _ _ _ _ _ _ _; first | refine O_ev WideF.wide rfl (Ev_pure rfl) rfl rfl ?_ | (show opsA _ _ _ _ (⟨_, .load _ _, _, _, _, _⟩ :: _) _ _; first | refine O_ev WideF.wide rfl (Ev_loadB1 (i := 0) rfl rfl rfl) rfl rfl ?_ | refine O_ev WideF.wide rfl (Ev_loadB (i := 0) rfl rfl rfl) rfl rfl ?_) | (show opsA _ _ _ _ (⟨_, .indexAddr _ _ _, _, _, _, _⟩ :: _) _ _; refine O_ev WideF.wide rfl (Ev_indexAddr rfl rfl (by omega) (by omega)) rfl rfl ?_) | (show opsA _ _ _ _ (⟨_, .fieldAddr _ _ _, _, _, _, _⟩ :: _) _ _; refine O_ev WideF.wide rfl (Ev_fieldAddr rfl rfl rfl) rfl rfl ?_) | (show opsA _ _ _ _ (⟨_, .call _, _, _, _, _⟩ :: _) _ _; (refine O_f2 (O_ef rfl (Ef_appendR WideF.wide rfl rfl rfl rfl rfl (by simp; omega) (by simp; omega) rfl ?_)); intro a cp)) | (show opsA _ _ _ _ (⟨_, .buildSlice _ _ _, _, _, _, _⟩ :: _) _ _; (refine O_ef rfl (Ef_build11 WideF.wide rfl rfl rfl ?_); intro b)) | (show opsA _ _ _ _ (⟨_, .binOp _ _ _ _ _, _, _, _, _⟩ :: _) _ _; refine O_ev WideF.wide rfl (Ev_add rfl rfl (wi64 (by omega))) rfl rfl ?_) | (show opsA _ _ _ _ (⟨_, .alloc _, _, _, _, _⟩ :: _) _ _; (refine O_ef rfl (Ef_alloc WideF.wide rfl ?_); intro b)) | (show opsA _ _ _ _ (⟨_, .store _ _ _, _, _, _, _⟩ :: _) _ _; refine O_ef rfl (Ef_storew WideF.wide rfl rfl rfl rfl rfl ?_))) | (show wpA _ _ _ (.cond _ _ _) _ _ _ _; first | (refine A_if rfl (fun h => ?_) (fun h => ?_) <;> try (exfalso; omega)) | refine A_iftrue rfl ?_))
        all_goals first
          | (exfalso; omega)
          | (refine Shift.to ⟨_, ?_, k + 1, _, _, _, p ++ [irow y.id], H3, rfl, by omega, rfl, by rw [hsn, hp]; simp, hle.trans hle3, rfl⟩ ⟨rfl, rfl, rfl, ⟨rfl, rfl, rfl, rfl, rfl, trivial⟩, Own.subi [0] (by decide) rfl rfl⟩
             omega)
      · rw [if_neg hs] at hsn
        rw [Bool.not_eq_true] at hs
        rw [hs] at hb1
        repeat' (first | (refine O_ev WideF.wide rfl (Ev_loadH rfl hc rfl) rfl rfl ?_) | (refine O_ef rfl (Ef_callc (I := []) (args := [_]) (caps := [_]) WideF.wide hb1 rfl ⟨rfl, trivial⟩ rfl ?_); rintro v H3 I3 hle3 ⟨rfl, rfl⟩) | refine O_nil ?_ | refine A_seq ?_ | refine A_region ?_ | refine A_skip ?_ | refine A_block ?_ | (show opsA _ _ _ _ _ _ _; first | refine O_ev WideF.wide rfl (Ev_pure rfl) rfl rfl ?_ | (show opsA _ _ _ _ (⟨_, .load _ _, _, _, _, _⟩ :: _) _ _; refine O_ev WideF.wide rfl (Ev_loadB (i := 0) rfl rfl rfl) rfl rfl ?_) | (show opsA _ _ _ _ (⟨_, .indexAddr _ _ _, _, _, _, _⟩ :: _) _ _; refine O_ev WideF.wide rfl (Ev_indexAddr rfl rfl (by omega) (by omega)) rfl rfl ?_) | (show opsA _ _ _ _ (⟨_, .binOp _ _ _ _ _, _, _, _, _⟩ :: _) _ _; refine O_ev WideF.wide rfl (Ev_add rfl rfl (wi64 (by omega))) rfl rfl ?_) | (show opsA _ _ _ _ (⟨_, .alloc _, _, _, _, _⟩ :: _) _ _; (refine O_ef rfl (Ef_alloc WideF.wide rfl ?_); intro b)) | (show opsA _ _ _ _ (⟨_, .store _ _ _, _, _, _, _⟩ :: _) _ _; refine O_ef rfl (Ef_storew WideF.wide rfl rfl rfl rfl rfl ?_))) | (show wpA _ _ _ (.cond _ _ _) _ _ _ _; first | (refine A_if rfl (fun h => ?_) (fun h => ?_) <;> try (exfalso; omega)) | refine A_iffalse rfl ?_))
        all_goals first
          | (exfalso; omega)
          | (refine Shift.to ⟨_, ?_, k + 1, _, _, _, p, H3, rfl, by omega, hpn, by rw [hsn, hp], hle.trans hle3, rfl⟩ ⟨rfl, rfl, rfl, ⟨rfl, rfl, rfl, rfl, rfl, trivial⟩, Own.subi [1] (by decide) rfl rfl⟩
             omega)
    · rw [List.take_of_length_le (by omega)] at hp
      have hql : (selIds l f).length ≤ n := by have := selIds_len l f; omega
      have hso := fun Hx => sortInts_fn (H := Hx) (a := b) (n := q) (cp := c') (l := selIds l f) (by omega)
      have hco := fun Hx => compactInts_fn (H := Hx) (a := b) (n := q) (cp := c') (l := srt (selIds l f)) (by unfold srt; rw [(List.mergeSort_perm _ _).length_eq]; omega)
      subst hp
      repeat' (first | (refine O_ef rfl (Ef_call (I := [_]) WideF.wide (hso _) ⟨rfl, trivial⟩ rfl ?_); rintro v H3 I3 hle3 ⟨rfl, rfl, rfl⟩) | (refine O_ef rfl (Ef_call (I := [_]) WideF.wide (hco _) ⟨rfl, trivial⟩ rfl ?_); rintro v H4 I4 hle4 ⟨rfl, n', rfl, rfl⟩) | refine O_nil ?_ | refine A_seq ?_ | refine A_region ?_ | refine A_ret ?_ | (show opsA _ _ _ _ _ _ _; refine O_ev WideF.wide rfl (Ev_pure rfl) rfl rfl ?_) | (show wpA _ _ _ (.exit _) _ _ _ _; refine A_exit rfl ?_) | (show wpA _ _ _ (.cond _ _ _) _ _ _ _; (refine A_if rfl (fun h => ?_) (fun h => ?_) <;> try (exfalso; omega))))
      all_goals first
        | (exfalso; omega)
        | exact End_row (Ret1 rfl rfl) (irow_one _) fun H' hle hr => ⟨⟨_, _, _, rfl, hr⟩, rfl⟩
set_option maxRecDepth 100000 in
theorem Accept_fn {H : Hp} {a : Option Addr} {n cq : Nat} {l : List Rev} {cs : List Value} {f : Filt} (hx : HRow H a n cq 3 (l.map rrow)) (hf : FiltH H cs f) (hm : n < 1048576) : Fn Try.prog 29 [.slice a n cq, .agg cs.toArray] H [] (DecIs (cmps (selIds l f)) []) := by
  have hs := Select_fn hx hf hm
  obtain ⟨aa, an, ac, ia, iN, ic, rfl, _⟩ := hf.ex
  refine Fn_of _ _ Try.func29 rfl Try.ntmps29 rfl fun c => ?_
  repeat' (first | (refine O_ef rfl (Ef_call (I := []) WideF.wide hs ⟨rfl, rfl, trivial⟩ rfl ?_); rintro v H1 I1 hle1 ⟨⟨a1, n1, c1, rfl, r1⟩, rfl⟩) | refine O_nil ?_ | refine A_seq ?_ | refine A_region ?_ | refine A_ret ?_ | (show opsA _ _ _ _ _ _ _; first | refine O_ev WideF.wide rfl (Ev_pure rfl) rfl rfl ?_ | (show opsA _ _ _ _ (⟨_, .load _ _, _, _, _, _⟩ :: _) _ _; refine O_ev WideF.wide rfl (Ev_loadB (i := 1) rfl rfl rfl) rfl rfl ?_) | (show opsA _ _ _ _ (⟨_, .build _ _, _, _, _, _⟩ :: _) _ _; refine O_ev WideF.wide rfl (Ev_build (vs := [(_, _)]) ⟨rfl, rfl, trivial⟩ rfl) rfl rfl ?_) | (show opsA _ _ _ _ (⟨_, .alloc _, _, _, _, _⟩ :: _) _ _; (refine O_ef rfl (Ef_alloc WideF.wide rfl ?_); intro b)) | (show opsA _ _ _ _ (⟨_, .box _ _, _, _, _, _⟩ :: _) _ _; (refine O_ef rfl (Ef_boxa WideF.wide rfl rfl ?_); intro b)) | (show opsA _ _ _ _ (⟨_, .store _ _ _, _, _, _, _⟩ :: _) _ _; refine O_ef rfl (Ef_storew WideF.wide rfl rfl rfl rfl rfl ?_))))
  exact End_e (RetC rfl rfl (i := 0) rfl rfl) ⟨⟨_, _, _, _, _, _, rfl, r1, HRow.nil' _ 1⟩, rfl⟩
set_option maxRecDepth 100000 in
theorem Reject_fn {H : Hp} {a : Option Addr} {n cq : Nat} {l : List Rev} {cs : List Value} {f : Filt} (hx : HRow H a n cq 3 (l.map rrow)) (hf : FiltH H cs f) (hm : n < 1048576) : Fn Try.prog 30 [.slice a n cq, .agg cs.toArray] H [] (DecIs [] (cmps (selIds l f))) := by
  have hs := Select_fn hx hf hm
  obtain ⟨aa, an, ac, ia, iN, ic, rfl, _⟩ := hf.ex
  refine Fn_of _ _ Try.func30 rfl Try.ntmps30 rfl fun c => ?_
  repeat' (first | (refine O_ef rfl (Ef_call (I := []) WideF.wide hs ⟨rfl, rfl, trivial⟩ rfl ?_); rintro v H1 I1 hle1 ⟨⟨a1, n1, c1, rfl, r1⟩, rfl⟩) | refine O_nil ?_ | refine A_seq ?_ | refine A_region ?_ | refine A_ret ?_ | (show opsA _ _ _ _ _ _ _; first | refine O_ev WideF.wide rfl (Ev_pure rfl) rfl rfl ?_ | (show opsA _ _ _ _ (⟨_, .load _ _, _, _, _, _⟩ :: _) _ _; refine O_ev WideF.wide rfl (Ev_loadB (i := 1) rfl rfl rfl) rfl rfl ?_) | (show opsA _ _ _ _ (⟨_, .build _ _, _, _, _, _⟩ :: _) _ _; refine O_ev WideF.wide rfl (Ev_build (vs := [(_, _)]) ⟨rfl, rfl, trivial⟩ rfl) rfl rfl ?_) | (show opsA _ _ _ _ (⟨_, .alloc _, _, _, _, _⟩ :: _) _ _; (refine O_ef rfl (Ef_alloc WideF.wide rfl ?_); intro b)) | (show opsA _ _ _ _ (⟨_, .box _ _, _, _, _, _⟩ :: _) _ _; (refine O_ef rfl (Ef_boxa WideF.wide rfl rfl ?_); intro b)) | (show opsA _ _ _ _ (⟨_, .store _ _ _, _, _, _, _⟩ :: _) _ _; refine O_ef rfl (Ef_storew WideF.wide rfl rfl rfl rfl rfl ?_))))
  exact End_e (RetC rfl rfl (i := 0) rfl rfl) ⟨⟨_, _, _, _, _, _, rfl, HRow.nil' _ 1, r1⟩, rfl⟩
set_option maxRecDepth 100000 in
theorem sameDecision_fn {H : Hp} {aa : Option Addr} {an ac : Nat} {ra : Option Addr} {rn rc : Nat} {aa' : Option Addr} {an' ac' : Nat} {ra' : Option Addr} {rn' rc' : Nat} {p q p' q' : List Int}
    (h1 : HRow H aa an ac 1 (p.map irow)) (h2 : HRow H ra rn rc 1 (q.map irow)) (h1' : HRow H aa' an' ac' 1 (p'.map irow)) (h2' : HRow H ra' rn' rc' 1 (q'.map irow)) (m1 : an < 68719476736) (m2 : rn < 68719476736) :
    FnP Try.prog 28 [.agg [.slice aa an ac, .slice ra rn rc].toArray, .agg [.slice aa' an' ac', .slice ra' rn' rc'].toArray] H (.bool (decide (p = p') && decide (q = q'))) := by
  have s1 := same_fn h1 h1' m1
  have s2 := same_fn h2 h2' m2
  by_cases e : p = p'
  · rw [decide_eq_true e] at s1 ⊢
    refine Fn_of _ _ Try.func28 rfl Try.ntmps28 rfl fun c => ?_
    repeat' (first | (refine O_ef rfl (Ef_callp WideF.wide s1 ⟨rfl, rfl, trivial⟩ rfl ?_)) | (refine O_ef rfl (Ef_callp WideF.wide s2 ⟨rfl, rfl, trivial⟩ rfl ?_)) | refine O_nil ?_ | refine A_seq ?_ | refine A_region ?_ | refine A_ret ?_ | (show opsA _ _ _ _ _ _ _; first | refine O_ev WideF.wide rfl (Ev_pure rfl) rfl rfl ?_ | (show opsA _ _ _ _ (⟨_, .load _ _, _, _, _, _⟩ :: _) _ _; first | refine O_ev WideF.wide rfl (Ev_loadB1 (i := 0) rfl rfl rfl) rfl rfl ?_ | refine O_ev WideF.wide rfl (Ev_loadB1 (i := 1) rfl rfl rfl) rfl rfl ?_) | (show opsA _ _ _ _ (⟨_, .fieldAddr _ _ _, _, _, _, _⟩ :: _) _ _; refine O_ev WideF.wide rfl (Ev_fieldAddr rfl rfl rfl) rfl rfl ?_) | (show opsA _ _ _ _ (⟨_, .box _ _, _, _, _, _⟩ :: _) _ _; (refine O_ef rfl (Ef_boxa WideF.wide rfl rfl ?_); intro b))))
    exact End_p (Ret1 rfl rfl) (by rw [Bool.true_and])
  · rw [decide_eq_false e] at s1 ⊢
    refine Fn_of _ _ Try.func28 rfl Try.ntmps28 rfl fun c => ?_
    repeat' (first | (refine O_ef rfl (Ef_callp WideF.wide s1 ⟨rfl, rfl, trivial⟩ rfl ?_)) | refine O_nil ?_ | refine A_seq ?_ | refine A_region ?_ | refine A_ret ?_ | (show opsA _ _ _ _ _ _ _; first | refine O_ev WideF.wide rfl (Ev_pure rfl) rfl rfl ?_ | (show opsA _ _ _ _ (⟨_, .load _ _, _, _, _, _⟩ :: _) _ _; first | refine O_ev WideF.wide rfl (Ev_loadB1 (i := 0) rfl rfl rfl) rfl rfl ?_ | refine O_ev WideF.wide rfl (Ev_loadB1 (i := 1) rfl rfl rfl) rfl rfl ?_) | (show opsA _ _ _ _ (⟨_, .fieldAddr _ _ _, _, _, _, _⟩ :: _) _ _; refine O_ev WideF.wide rfl (Ev_fieldAddr rfl rfl rfl) rfl rfl ?_) | (show opsA _ _ _ _ (⟨_, .box _ _, _, _, _, _⟩ :: _) _ _; (refine O_ef rfl (Ef_boxa WideF.wide rfl rfl ?_); intro b)) | refine O_skip WideF.wide rfl rfl rfl ?_))
    exact End_p (Ret1 rfl rfl) rfl
set_option maxRecDepth 100000 in
set_option maxHeartbeats 1000000 in
theorem insert_fn {H : Hp} {a : Option Addr} {n cq : Nat} {l : List Int} {x : Int} (hx : HRow H a n cq 1 (l.map irow)) (hm : n < 1048576) : Fn Try.prog 26 [.slice a n cq, .int .i64 x] H [] (IntsIs (insI l x)) := by
  have e1 : l.length = n := by have := hx.len; simpa using this
  have hhas := lhas_fn (x := x) hx (by omega)
  by_cases hin : x ∈ l
  · have hi : insI l x = l := by unfold insI; rw [if_pos hin]
    rw [decide_eq_true hin] at hhas
    rw [hi]
    refine Fn_of _ _ Try.func26 rfl Try.ntmps26 rfl fun c => ?_
    repeat' (first | (refine O_ef rfl (Ef_callp WideF.wide hhas ⟨rfl, rfl, trivial⟩ rfl ?_)) | refine O_nil ?_ | refine A_seq ?_ | refine A_region ?_ | refine A_ret ?_ | (show opsA _ _ _ _ _ _ _; refine O_ev WideF.wide rfl (Ev_pure rfl) rfl rfl ?_) | (show wpA _ _ _ (.cond _ _ _) _ _ _ _; refine A_iftrue rfl ?_))
    exact End_e (Ret1 rfl rfl) ⟨⟨_, _, _, rfl, hx⟩, rfl⟩
  · rw [decide_eq_false hin] at hhas
    refine Fn_of _ _ Try.func26 rfl Try.ntmps26 rfl fun c => ?_
    repeat' (first | (refine O_ef rfl (Ef_callp WideF.wide hhas ⟨rfl, rfl, trivial⟩ rfl ?_)) | refine O_nil ?_ | refine A_seq ?_ | refine A_region ?_ | refine A_skip ?_ | refine A_block ?_ | (show opsA _ _ _ _ _ _ _; first | refine O_ev WideF.wide rfl (Ev_pure rfl) rfl rfl ?_ | (show opsA _ _ _ _ (⟨_, .call _, _, _, _, _⟩ :: _) _ _; refine O_ev WideF.wide rfl (Ev_llen rfl) rfl rfl ?_)) | (show wpA _ _ _ (.cond _ _ _) _ _ _ _; refine A_iffalse rfl ?_))
    refine A_loopu (fun m s => ∃ (k : Nat), m = 0 + k ∧ k ≤ n ∧ atK l x n = atK l x k ∧ s = ⟨40, [(0, .slice a n cq), (1, .int .i64 x), (5, .int .i64 k)], H, [], [], []⟩) ?_ ?_
    · exact Shift.to ⟨_, n, rfl, by omega, rfl, rfl⟩ ⟨rfl, rfl, rfl, ⟨rfl, rfl, rfl, trivial⟩, Own.sub_nil _⟩
    · rintro m s ⟨k, rfl, hk, hat, rfl⟩
      have hcap := hx.cap
      have hfin : atK l x n = k → (l.take k ++ x :: l.drop k).map irow = ([] ++ (l.take k).map irow ++ [irow x]) ++ (l.drop k).map irow ∧ insI l x = l.take k ++ x :: l.drop k ∧ (∀ cs ∈ ([] ++ (l.take k).map irow ++ [irow x]) ++ (l.drop k).map irow, ∀ u ∈ cs, u.oneCell' = true) := fun h => by
        have h0 : (l.take k ++ x :: l.drop k).map irow = ([] ++ (l.take k).map irow ++ [irow x]) ++ (l.drop k).map irow := by simp
        refine ⟨h0, ?_, by rw [← h0]; exact irow_one _⟩
        unfold insI; rw [if_neg hin, e1, h]
      have hlo : HRow H a k cq 1 ((l.take k).map irow) := (hx.upto hk).cong List.map_take
      have hhi : HRow H (if cq = k then a else a.map (·.add (k * 1))) (n - k) (cq - k) 1 ((l.drop k).map irow) := (hx.slice hk (Nat.le_refl n)).cong (by rw [List.map_drop, List.take_of_length_le (by simp; omega)])
      cases k with
      | zero =>
        obtain ⟨f1, f2, f3⟩ := hfin (by rw [hat]; rfl)
        rw [f2]
        repeat' (first | (refine O_ev WideF.wide rfl (Ev_lsliceh rfl rfl (by omega) (by omega)) rfl rfl ?_) | (refine O_ev WideF.wide rfl (Ev_lslicel rfl rfl (by omega) (by omega)) rfl rfl ?_) | (refine O_ef rfl (Ef_build0 (k := 1) WideF.wide rfl ?_); intro b) | (refine O_ef rfl (Ef_appendH WideF.wide rfl rfl hlo rfl rfl (by simp <;> omega) (by simp <;> omega) rfl ?_); intro a' c') | (refine O_ef rfl (Ef_appendH WideF.wide rfl rfl hhi rfl rfl (by simp <;> omega) (by simp <;> omega) rfl ?_); intro a' c') | refine O_nil ?_ | refine A_seq ?_ | refine A_region ?_ | refine A_ret ?_ | (show opsA _ _ _ _ _ _ _; first | (refine O_split rfl rfl (fun h => ?_) (fun h => ?_) <;> try (exfalso; omega)) | refine O_ev WideF.wide rfl (Ev_pure rfl) rfl rfl ?_ | (show opsA _ _ _ _ (⟨_, .call _, _, _, _, _⟩ :: _) _ _; (refine O_f1 (O_ef rfl (Ef_appendR WideF.wide rfl rfl rfl rfl rfl (by simp) (by simp) rfl ?_)); intro a cp)) | (show opsA _ _ _ _ (⟨_, .buildSlice _ _ _, _, _, _, _⟩ :: _) _ _; (refine O_ef rfl (Ef_build11 WideF.wide rfl rfl rfl ?_); intro b)) | refine O_skip WideF.wide rfl rfl rfl ?_) | (show wpA _ _ _ (.exit _) _ _ _ _; refine A_exit rfl ?_) | (show wpA _ _ _ (.cond _ _ _) _ _ _ _; refine A_iffalse rfl ?_))
        all_goals first
          | (exfalso; omega)
          | exact End_row (Ret1 rfl rfl) f3 fun H' hle hr => ⟨⟨_, _, _, rfl, hr.cong f1⟩, rfl⟩
      | succ j =>
        obtain ⟨b, o, y, rfl, hy, hc⟩ := hx.atm j (by omega)
        unfold irow at hc
        have hj : ((j + 1 : Nat) : Int) - 1 = (j : Int) := by omega
        have hid : (l[j]?).getD 0 = y := by rw [hy]; rfl
        rw [show atK l x (j + 1) = if x < (l[j]?).getD 0 then atK l x j else j + 1 from rfl, hid] at hat
        by_cases hlt : x < y
        · rw [if_pos hlt] at hat
          repeat' (first | (refine O_ev WideF.wide rfl (Ev_sub rfl rfl (wi64 (by omega))) rfl rfl ?_; rw [hj]) | (refine O_ev WideF.wide rfl (Ev_loadH1 rfl (hc 0 _ rfl)) rfl rfl ?_) | refine O_nil ?_ | refine A_seq ?_ | refine A_region ?_ | refine A_skip ?_ | refine A_block ?_ | (show opsA _ _ _ _ _ _ _; first | (refine O_split rfl rfl (fun h => ?_) (fun h => ?_) <;> try (exfalso; omega)) | refine O_ev WideF.wide rfl (Ev_pure rfl) rfl rfl ?_ | (show opsA _ _ _ _ (⟨_, .indexAddr _ _ _, _, _, _, _⟩ :: _) _ _; refine O_ev WideF.wide rfl (Ev_indexAddr rfl rfl (by omega) (by omega)) rfl rfl ?_)) | (show wpA _ _ _ (.cond _ _ _) _ _ _ _; (refine A_if rfl (fun h => ?_) (fun h => ?_) <;> try (exfalso; omega))))
          all_goals first
            | (exfalso; omega)
            | (refine Shift.to ⟨_, ?_, j, rfl, by omega, hat, rfl⟩ ⟨rfl, rfl, rfl, ⟨rfl, rfl, rfl, trivial⟩, Own.sub_nil _⟩
               omega)
        · rw [if_neg hlt] at hat
          obtain ⟨f1, f2, f3⟩ := hfin hat
          rw [f2]
          repeat' (first | (refine O_ev WideF.wide rfl (Ev_sub rfl rfl (wi64 (by omega))) rfl rfl ?_; rw [hj]) | (refine O_ev WideF.wide rfl (Ev_loadH1 rfl (hc 0 _ rfl)) rfl rfl ?_) | (refine O_ev WideF.wide rfl (Ev_lsliceh rfl rfl (by omega) (by omega)) rfl rfl ?_) | (refine O_ev WideF.wide rfl (Ev_lslicel rfl rfl (by omega) (by omega)) rfl rfl ?_) | (refine O_ef rfl (Ef_build0 (k := 1) WideF.wide rfl ?_); intro b) | (refine O_ef rfl (Ef_appendH WideF.wide rfl rfl hlo rfl rfl (by simp <;> omega) (by simp <;> omega) rfl ?_); intro a' c') | (refine O_ef rfl (Ef_appendH WideF.wide rfl rfl hhi rfl rfl (by simp <;> omega) (by simp <;> omega) rfl ?_); intro a' c') | refine O_nil ?_ | refine A_seq ?_ | refine A_region ?_ | refine A_ret ?_ | (show opsA _ _ _ _ _ _ _; first | (refine O_split rfl rfl (fun h => ?_) (fun h => ?_) <;> try (exfalso; omega)) | refine O_ev WideF.wide rfl (Ev_pure rfl) rfl rfl ?_ | (show opsA _ _ _ _ (⟨_, .indexAddr _ _ _, _, _, _, _⟩ :: _) _ _; refine O_ev WideF.wide rfl (Ev_indexAddr rfl rfl (by omega) (by omega)) rfl rfl ?_) | (show opsA _ _ _ _ (⟨_, .call _, _, _, _, _⟩ :: _) _ _; (refine O_f1 (O_ef rfl (Ef_appendR WideF.wide rfl rfl rfl rfl rfl (by simp; omega) (by simp; omega) rfl ?_)); intro a cp)) | (show opsA _ _ _ _ (⟨_, .buildSlice _ _ _, _, _, _, _⟩ :: _) _ _; (refine O_ef rfl (Ef_build11 WideF.wide rfl rfl rfl ?_); intro b))) | (show wpA _ _ _ (.exit _) _ _ _ _; refine A_exit rfl ?_) | (show wpA _ _ _ (.cond _ _ _) _ _ _ _; (refine A_if rfl (fun h => ?_) (fun h => ?_) <;> try (exfalso; omega))))
          all_goals first
            | (exfalso; omega)
            | exact End_row (Ret1 rfl rfl) f3 fun H' hle hr => ⟨⟨_, _, _, rfl, hr.cong f1⟩, rfl⟩
end Go.Proofs.Ytlcoebomgaodgaa
