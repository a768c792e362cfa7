/-
  RevisionFinds, RevisionAdds.
-/
import Derived.Test.YtlcoebomgaodgaaQ12
namespace Go.Proofs.Ytlcoebomgaodgaa
open Go
set_option linter.unusedVariables false
set_option linter.unusedSimpArgs false
attribute [local irreducible] wpA opsA drJ drQ drE Ef Ev Shift Fn
theorem sameRevs_self {H : Hp} {a a' : Option Addr} {n cq n' cq' : Nat} {l : List Rev} (hx : HRow H a n cq 3 (l.map rrow)) (hx' : HRow H a' n' cq' 3 (l.map rrow)) (hm : n < 68719476736) : FnP Try.prog 22 [.slice a n cq, .slice a' n' cq'] H (.bool true) := by
  have h := sameRevs_fn hx hx' hm
  rwa [decide_eq_true rfl] at h
theorem same_self {H : Hp} {a a' : Option Addr} {n cq n' cq' : Nat} {l : List Int} (hx : HRow H a n cq 1 (l.map irow)) (hx' : HRow H a' n' cq' 1 (l.map irow)) (hm : n < 68719476736) : FnP Try.prog 27 [.slice a n cq, .slice a' n' cq'] H (.bool true) := by
  have h := same_fn hx hx' hm
  rwa [decide_eq_true rfl] at h
theorem eq_self (x : Rev) : ∀ w, (Op.equalIn 10000 23 (.agg (rrow x).toArray) (.agg (rrow x).toArray)).run Try.prog w = .ok (decide True) w := fun w => by
  have h := eq_rev x x w
  rwa [show decide (x = x) = decide True by simp] at h
theorem take40 {H : Hp} {a : Option Addr} {n cq : Nat} {l : List Int} (hx : HRow H a n cq 1 (l.map irow)) : HRow H a (if (40 : Int) < (n : Int) then (40 : Int) else (n : Int)).toNat cq 1 ((l.take 40).map irow) ∧ (if (40 : Int) < (n : Int) then (40 : Int) else (n : Int)).toNat ≤ 40 := by
  have e1 : l.length = n := by have := hx.len; simpa using this
  by_cases h : 40 < n
  · rw [if_pos (by omega)]
    exact ⟨(hx.upto (j := 40) (by omega)).cong List.map_take, by decide⟩
  · rw [if_neg (by omega)]
    refine ⟨?_, by omega⟩
    rw [List.take_of_length_le (by omega)]
    exact hx
theorem FindIs.ex {l : List Rev} {x : Int} {v : Value} (h : FindIs l x v) : ∃ z ok, v = .tuple [.agg (rrow z).toArray, .bool ok].toArray ∧ ((findK l x 0 = -1 ∧ z = zrev ∧ ok = false) ∨ ∃ (j : Nat), findK l x 0 = j ∧ l[j]? = some z ∧ ok = true) := by
  rcases h with ⟨h1, h⟩ | ⟨j, y, h1, h2, h⟩
  · exact ⟨zrev, false, h, .inl ⟨h1, rfl, rfl⟩⟩
  · exact ⟨y, true, h, .inr ⟨j, h1, h2, rfl⟩⟩
set_option maxRecDepth 100000 in
set_option maxHeartbeats 4000000 in
theorem RevisionFinds_fn {H : Hp} {a : Option Addr} {n cq : Nat} {l : List Rev} {id : Int} {a' : Option Addr} {n' cq' : Nat} {ids : List Int} (hx : HRow H a n cq 3 (l.map rrow)) (hl : FineL l n) (hx' : HRow H a' n' cq' 1 (ids.map irow)) (hm' : n' < 68719476736) :
    Fn Try.prog 8 [.slice a n cq, .int .i64 id, .slice a' n' cq'] H [] fun v _ I => v = .bool true ∧ I = [] := by
  have hc := (cut_fn hx hl.1 hl.2).mono fun v H' I' h => h.at'
  have hm := cutL_len l
  generalize cutL l = m at hc hm
  obtain ⟨ht, ht2⟩ := take40 hx'
  have hcap' := hx'.cap
  obtain ⟨n4, hn4⟩ : ∃ n4, n4 = (if (40 : Int) < (n' : Int) then (40 : Int) else (n' : Int)).toNat := ⟨_, rfl⟩
  rw [← hn4] at ht ht2
  generalize ids.take 40 = w at ht
  obtain ⟨N, hN⟩ : ∃ N, N = m.length := ⟨_, rfl⟩
  rw [← hN] at hc hm
  refine Fn_of _ _ Try.func8 rfl Try.ntmps8 rfl fun c => ?_
  refine A_nilrow 3 ?_
  repeat' (first | (refine A_drawL WideF.wide (.q 0 (.q 2 (.q 3 (.q 4 (.q 5 (.q 6 (.e 1 (.q 7 (.q 8 (.done [])))))))))) [] (by decide +kernel) ?_) | (refine E_ef rfl (Ef_call (I := []) WideF.wide hc ⟨rfl, trivial⟩ rfl ?_); rintro v H1 I1 hle1 ⟨⟨a1, c1, rfl, r1, hc1⟩, rfl⟩; refine ⟨⟨hle1, rfl⟩, ?_⟩) | (refine D_ev rfl (Ev_mini rfl rfl) rfl rfl ?_) | (refine D_ev rfl (Ev_lsliceh rfl rfl (by split <;> omega) (by split <;> omega)) rfl rfl ?_; rw [← hn4]) | (refine O_ef rfl (Ef_call (I := []) WideF.wide (Find_fn r1 (by omega)) ⟨rfl, rfl, trivial⟩ rfl ?_); rintro v H2 I2 hle2 ⟨hF, rfl, rfl⟩; obtain ⟨z, ok, rfl, hz⟩ := hF.ex) | (refine O_ef rfl (Ef_call (I := []) WideF.wide (Remove_fn r1 (ht.mono hle1) (by omega) (by omega)) ⟨rfl, rfl, trivial⟩ rfl ?_); rintro v H3 I3 hle3 ⟨⟨a9, n9, c9, rfl, r9⟩, rfl⟩) | (refine O_ef rfl (Ef_call (I := []) WideF.wide known_fn trivial rfl ?_); rintro v H4 I4 hle4 ⟨rfl, rfl⟩) | refine O_nil ?_ | refine A_seq ?_ | refine A_region ?_ | refine A_skip ?_ | refine A_block ?_ | (show drJ _ _ _ _ _ _ _ (.q _ _) _; refine D_q rfl ?_) | (show drJ _ _ _ _ _ _ _ (.e _ _) _; refine D_e rfl ?_) | (show drJ _ _ _ _ _ _ _ (.done _) _; refine D_done ?_; simp only [List.cons_append, List.nil_append]) | (show drQ _ _ _ _ _ _; first | refine D_ev rfl (Ev_pure rfl) rfl rfl ?_ | (show drQ _ _ _ ⟨_, .call _, _, _, _, _⟩ _ _; refine D_ev rfl (Ev_llen rfl) rfl rfl ?_)) | (show opsA _ _ _ _ _ _ _; first | refine O_ev WideF.wide rfl (Ev_pure rfl) rfl rfl ?_ | (show opsA _ _ _ _ (⟨_, .unOp _ _ _, _, _, _, _⟩ :: _) _ _; refine O_ev WideF.wide rfl (Ev_notb rfl) rfl rfl ?_) | (show opsA _ _ _ _ (⟨_, .alloc _, _, _, _, _⟩ :: _) _ _; (refine O_ef rfl (Ef_alloc WideF.wide rfl ?_); intro b)) | (show opsA _ _ _ _ (⟨_, .store _ _ _, _, _, _, _⟩ :: _) _ _; refine O_ef rfl (Ef_storew WideF.wide rfl rfl rfl rfl rfl ?_))) | (show wpA _ _ _ (.cond _ _ _) _ _ _ _; refine A_iffalse rfl ?_))
  all_goals try (exfalso; omega)
  have r1 := (r1.mono hle3).mono hle4
  have ht := ((ht.mono hle1).mono hle3).mono hle4
  have r9 := r9.mono hle4
  have l9 : n9 ≤ N := by have := r9.len; rw [List.length_map] at this; have := remL_len m w; omega
  have hat1 := fun k (hk : k < N) => r1.atm k hk
  refine A_loopu (fun q st => ∃ (k : Nat) (b : Option Addr) (nb cb b7 : Nat) (p : List (List Value)), q = N - k ∧ k ≤ N ∧ p.length = nb ∧ p = (remL (m.take k) w).map rrow ∧ st = ⟨83, [(0, .slice a1 N c1), (1, .int .i64 id), (2, .slice a' n4 cq'), (7, .pointer (some ⟨b7, 0, none⟩)), (8, .bool ok), (9, .slice a9 n9 c9), (10, .slice b nb cb), (11, .int .i64 (k : Int))], H4, [.row (.slice b nb cb) 3 p, .box b7 (rrow z)], [], []⟩) ?_ ?_
  · exact Shift.to ⟨_, 0, none, 0, 0, _, [], rfl, by omega, rfl, rfl, rfl⟩ ⟨rfl, rfl, rfl, ⟨rfl, rfl, rfl, rfl, rfl, rfl, rfl, rfl, trivial⟩, Own.subi [1, 0] (by decide) rfl rfl⟩
  rintro q st ⟨k, b, nb, cb, b7, p, rfl, hk, hpn, hp, rfl⟩
  have hpl : p.length ≤ k := by rw [hp, List.length_map]; have := remL_len (m.take k) w; rw [List.length_take] at this; omega
  by_cases hlt : k < N
  · obtain ⟨bb, oo, y, ha, hy, hcy⟩ := hat1 k hlt
    have hh := fun Hx (hle : HLe H4 Hx) => lhas_fn (x := y.id) (ht.mono hle) (by omega)
    have hsn := remL_snoc (m.take k) y w
    rw [← take_get hy] at hsn
    have hcz := hcy
    unfold rrow at hcz
    subst ha
    by_cases hin : y.id ∈ w
    · rw [if_pos hin] at hsn
      rw [decide_eq_true hin] at hh
      repeat' (first | (refine O_ev WideF.wide rfl (Ev_loadH1 rfl (hcz 0 _ rfl)) rfl rfl ?_) | (refine O_ef rfl (Ef_callp WideF.wide (hh _ (HLe.refl _)) ⟨rfl, rfl, trivial⟩ rfl ?_)) | refine O_nil ?_ | refine A_seq ?_ | refine A_region ?_ | refine A_skip ?_ | refine A_block ?_ | (show opsA _ _ _ _ _ _ _; first | refine O_ev WideF.wide rfl (Ev_pure rfl) rfl rfl ?_ | (show opsA _ _ _ _ (⟨_, .indexAddr _ _ _, _, _, _, _⟩ :: _) _ _; refine O_ev WideF.wide rfl (Ev_indexAddr rfl rfl (by omega) (by omega)) rfl rfl ?_) | (show opsA _ _ _ _ (⟨_, .fieldAddr _ _ _, _, _, _, _⟩ :: _) _ _; refine O_ev WideF.wide rfl (Ev_fieldAddr rfl rfl rfl) rfl rfl ?_) | (show opsA _ _ _ _ (⟨_, .call _, _, _, _, _⟩ :: _) _ _; refine O_ev WideF.wide rfl (Ev_llen rfl) rfl rfl ?_) | (show opsA _ _ _ _ (⟨_, .binOp _ _ _ _ _, _, _, _, _⟩ :: _) _ _; refine O_ev WideF.wide rfl (Ev_add rfl rfl (wi64 (by omega))) rfl rfl ?_) | (show opsA _ _ _ _ (⟨_, .unOp _ _ _, _, _, _, _⟩ :: _) _ _; refine O_ev WideF.wide rfl (Ev_notb rfl) rfl rfl ?_)) | (show wpA _ _ _ (.cond _ _ _) _ _ _ _; first | (refine A_if rfl (fun h => ?_) (fun h => ?_) <;> try (exfalso; omega)) | refine A_iffalse rfl ?_))
      all_goals first
        | (exfalso; omega)
        | (refine Shift.to ⟨_, ?_, k + 1, _, _, _, b7, p, rfl, by omega, hpn, by rw [hsn, hp], rfl⟩ ⟨rfl, rfl, rfl, ⟨rfl, rfl, rfl, rfl, rfl, rfl, rfl, rfl, trivial⟩, Own.subi [0, 1] (by decide) rfl rfl⟩
           omega)
    · rw [if_neg hin] at hsn
      rw [decide_eq_false hin] at hh
      repeat' (first | (refine O_ev WideF.wide rfl (Ev_loadH1 rfl (hcz 0 _ rfl)) rfl rfl ?_) | (refine O_ev WideF.wide rfl (Ev_loadH rfl hcz rfl) rfl rfl ?_) | (refine O_ef rfl (Ef_callp WideF.wide (hh _ (HLe.refl _)) ⟨rfl, rfl, trivial⟩ rfl ?_)) | refine O_nil ?_ | refine A_seq ?_ | refine A_region ?_ | refine A_skip ?_ | refine A_block ?_ | (show opsA _ _ _ _ _ _ _; first | refine O_ev WideF.wide rfl (Ev_pure rfl) rfl rfl ?_ | (show opsA _ _ _ _ (⟨_, .indexAddr _ _ _, _, _, _, _⟩ :: _) _ _; refine O_ev WideF.wide rfl (Ev_indexAddr rfl rfl (by omega) (by omega)) rfl rfl ?_) | (show opsA _ _ _ _ (⟨_, .fieldAddr _ _ _, _, _, _, _⟩ :: _) _ _; refine O_ev WideF.wide rfl (Ev_fieldAddr rfl rfl rfl) rfl rfl ?_) | (show opsA _ _ _ _ (⟨_, .call _, _, _, _, _⟩ :: _) _ _; first | refine O_ev WideF.wide rfl (Ev_llen rfl) rfl rfl ?_ | (refine O_f1 (O_ef rfl (Ef_appendR WideF.wide rfl rfl rfl rfl rfl (by simp; omega) (by simp; omega) rfl ?_)); intro a cp)) | (show opsA _ _ _ _ (⟨_, .buildSlice _ _ _, _, _, _, _⟩ :: _) _ _; (refine O_ef rfl (Ef_build1a WideF.wide rfl rfl rfl rfl rfl ?_); intro b)) | (show opsA _ _ _ _ (⟨_, .binOp _ _ _ _ _, _, _, _, _⟩ :: _) _ _; refine O_ev WideF.wide rfl (Ev_add rfl rfl (wi64 (by omega))) rfl rfl ?_) | (show opsA _ _ _ _ (⟨_, .unOp _ _ _, _, _, _, _⟩ :: _) _ _; refine O_ev WideF.wide rfl (Ev_notb rfl) rfl rfl ?_)) | (show wpA _ _ _ (.cond _ _ _) _ _ _ _; first | (refine A_if rfl (fun h => ?_) (fun h => ?_) <;> try (exfalso; omega)) | refine A_iftrue rfl ?_))
      all_goals first
        | (exfalso; omega)
        | (refine Shift.to ⟨_, ?_, k + 1, _, _, _, b7, p ++ [rrow y], rfl, by omega, rfl, by rw [hsn, hp]; simp, rfl⟩ ⟨rfl, rfl, rfl, ⟨rfl, rfl, rfl, rfl, rfl, rfl, rfl, rfl, trivial⟩, Own.subi [0, 1] (by decide) rfl rfl⟩
           omega)
  · rw [List.take_of_length_le (by omega)] at hp
    refine A_freeze (by rw [hp]; exact rrow_one _) ?_
    intro H5 hle5 r10
    have r10 : HRow H5 b nb cb 3 ((remL m w).map rrow) := r10.cong hp.symm
    have r9 := r9.mono hle5
    have r1 := r1.mono hle5
    have hf := find_fn (x := id) r1 (by omega)
    have hsr := sameRevs_self r9 r10 (by omega)
    rcases hz with ⟨hk1, rfl, rfl⟩ | ⟨j, hk1, hy, rfl⟩
    · rw [hk1] at hf
      repeat' (first | (refine O_ef rfl (Ef_callp WideF.wide hf ⟨rfl, rfl, trivial⟩ rfl ?_)) | (refine O_ev WideF.wide rfl (Ev_eqS (xs := rrow zrev) (ys := rrow zrev) rfl rfl Try.eqGuardType23 (eq_self zrev)) rfl rfl ?_) | (refine O_ef rfl (Ef_callp WideF.wide hsr ⟨rfl, rfl, trivial⟩ rfl ?_)) | refine O_nil ?_ | refine A_seq ?_ | refine A_region ?_ | refine A_ret ?_ | (show opsA _ _ _ _ _ _ _; first | (refine O_split rfl rfl (fun h => ?_) (fun h => ?_) <;> try (exfalso; omega)) | refine O_ev WideF.wide rfl (Ev_pure rfl) rfl rfl ?_ | (show opsA _ _ _ _ (⟨_, .load _ _, _, _, _, _⟩ :: _) _ _; refine O_ev WideF.wide rfl (Ev_loadB (i := 0) rfl rfl rfl) rfl rfl ?_) | (show opsA _ _ _ _ (⟨_, .call _, _, _, _, _⟩ :: _) _ _; refine O_ev WideF.wide rfl (Ev_llen rfl) rfl rfl ?_) | (show opsA _ _ _ _ (⟨_, .unOp _ _ _, _, _, _, _⟩ :: _) _ _; refine O_ev WideF.wide rfl (Ev_notb rfl) rfl rfl ?_) | (show opsA _ _ _ _ (⟨_, .build _ _, _, _, _, _⟩ :: _) _ _; refine O_ev WideF.wide rfl (Ev_build (vs := []) trivial rfl) rfl rfl ?_) | refine O_skip WideF.wide rfl rfl rfl ?_) | (show wpA _ _ _ (.exit _) _ _ _ _; refine A_exit rfl ?_) | (show wpA _ _ _ (.cond _ _ _) _ _ _ _; (refine A_if rfl (fun h => ?_) (fun h => ?_) <;> try (exfalso; omega))))
      all_goals first
        | (exfalso; omega)
        | (exfalso; exact absurd trivial (by assumption))
        | exact End_e (Ret1 rfl rfl) ⟨rfl, rfl⟩
    · rw [hk1] at hf
      have hjN : j < N := by have := (List.getElem?_eq_some_iff.1 hy).1; omega
      obtain ⟨bb, oo, y, rfl, hy', hcy⟩ := r1.atm j hjN
      rw [hy] at hy'
      cases hy'
      repeat' (first | (refine O_ef rfl (Ef_callp WideF.wide hf ⟨rfl, rfl, trivial⟩ rfl ?_)) | (refine A_drawL WideF.wide (.q 0 (.q 1 (.q 2 (.q 3 (.q 4 (.q 5 (.q 6 (.q 7 (.q 8 (.q 9 (.q 10 (.q 11 (.e 12 (.q 13 (.q 14 (.done [])))))))))))))))) [] (by decide +kernel) ?_) | (refine D_ev rfl (Ev_loadH rfl hcy rfl) rfl rfl ?_) | (refine D_ev rfl (Ev_eqS (xs := rrow z) (ys := rrow z) rfl rfl Try.eqGuardType23 (eq_self z)) rfl rfl ?_) | (refine E_ef rfl (Ef_callp WideF.wide hsr ⟨rfl, rfl, trivial⟩ rfl ?_); refine ⟨Grow.same rfl rfl, ?_⟩) | refine O_nil ?_ | refine A_seq ?_ | refine A_region ?_ | refine A_skip ?_ | refine A_ret ?_ | (show drJ _ _ _ _ _ _ _ (.q _ _) _; refine D_q rfl ?_) | (show drJ _ _ _ _ _ _ _ (.e _ _) _; refine D_e rfl ?_) | (show drJ _ _ _ _ _ _ _ (.done _) _; refine D_done ?_; simp only [List.cons_append, List.nil_append]) | (show drQ _ _ _ _ _ _; first | (refine D_split rfl rfl (fun h => ?_) (fun h => ?_) <;> try (exfalso; omega)) | refine D_ev rfl (Ev_pure rfl) rfl rfl ?_ | (show drQ _ _ _ ⟨_, .load _ _, _, _, _, _⟩ _ _; refine D_ev rfl (Ev_loadB (i := 0) rfl rfl rfl) rfl rfl ?_) | (show drQ _ _ _ ⟨_, .indexAddr _ _ _, _, _, _, _⟩ _ _; refine D_ev rfl (Ev_indexAddr rfl rfl (by omega) (by omega)) rfl rfl ?_) | refine D_skip rfl rfl rfl ?_) | (show drE _ _ _ _ _ _ _; refine E_skip rfl rfl rfl ?_) | (show opsA _ _ _ _ _ _ _; first | refine O_ev WideF.wide rfl (Ev_pure rfl) rfl rfl ?_ | (show opsA _ _ _ _ (⟨_, .call _, _, _, _, _⟩ :: _) _ _; refine O_ev WideF.wide rfl (Ev_llen rfl) rfl rfl ?_)) | (show wpA _ _ _ (.exit _) _ _ _ _; refine A_exit rfl ?_) | (show wpA _ _ _ (.cond _ _ _) _ _ _ _; (refine A_if rfl (fun h => ?_) (fun h => ?_) <;> try (exfalso; omega))))
      all_goals first
        | (exfalso; omega)
        | (exfalso; exact absurd trivial (by assumption))
        | exact End_e (Ret1 rfl rfl) ⟨rfl, rfl⟩
theorem remL_put {l : List Rev} {r : Rev} (h : r.id ∉ l.map Rev.id) : remL (putL l r) [r.id] = l := by
  have key : ∀ q : List Rev, (∀ x ∈ q, x ∈ l) → remL q [r.id] = q := fun q hq => by
    unfold remL
    rw [List.filter_eq_self]
    intro x hx
    have : x.id ≠ r.id := fun e => h (List.mem_map.2 ⟨x, hq x hx, e⟩)
    simpa using this
  unfold putL
  have e : ∀ A B : List Rev, remL (A ++ r :: B) [r.id] = remL A [r.id] ++ remL B [r.id] := fun A B => by
    unfold remL
    rw [List.filter_append, List.filter_cons]
    simp
  rw [e, key _ (fun x hx => List.mem_of_mem_take hx), key _ (fun x hx => List.mem_of_mem_drop hx), List.take_append_drop]
theorem chk_put {l : List Rev} {r : Rev} (h0 : chk l = 0) (h1 : chkRev r = 0) (h2 : r.id ∉ l.map Rev.id) (h3 : l.length < 256) : chk (putL l r) = 0 := by
  have hz := chk_zero.1 h0
  refine chk_zero.2 ⟨by rw [putL_len]; omega, fun x hx => ?_, putL_inc hz.2.2 h2⟩
  rcases putL_mem.1 hx with hx | rfl
  · exact hz.2.1 x hx
  · exact h1
set_option maxRecDepth 100000 in
set_option maxHeartbeats 4000000 in
theorem RevisionAdds_fn {H : Hp} {a : Option Addr} {n cq : Nat} {l : List Rev} {r : Rev} (hx : HRow H a n cq 3 (l.map rrow)) (hl : FineL l n) (hr : r.author.length < 1099511627776) :
    Fn Try.prog 9 [.slice a n cq, .agg (rrow r).toArray] H [] fun v _ I => v = .bool true ∧ I = [] := by
  have hc := (cut_fn hx hl.1 hl.2).mono fun v H' I' h => h.at'
  have hm := cutL_len l
  generalize cutL l = m at hc hm
  have ho := fun Hx => one_fn (H := Hx) hr
  generalize one60 r = x at ho
  obtain ⟨N, hN⟩ : ∃ N, N = m.length := ⟨_, rfl⟩
  rw [← hN] at hc hm
  have hadd := fun Hx a1 c1 (r1 : HRow Hx a1 N c1 3 (m.map rrow)) => Add_fn (r := x) r1
  have hck := fun Hx a1 c1 (r1 : HRow Hx a1 N c1 3 (m.map rrow)) => lcheck_fn r1
  have hcr := fun Hx => lcheckRev_fn (H := Hx) (r := x)
  have hfd := fun Hx a1 c1 (r1 : HRow Hx a1 N c1 3 (m.map rrow)) => find_fn (x := x.id) r1 (by omega)
  by_cases h0 : chk m = 0
  · have hz := chk_zero.1 h0
    by_cases h1 : chkRev x = 0
    · rw [h0] at hck
      rw [h1] at hcr
      by_cases h2 : x.id ∈ m.map Rev.id
      · obtain ⟨y, hym, hye⟩ := List.mem_map.1 h2
        obtain ⟨j, hj⟩ := List.mem_iff_getElem?.1 hym
        rw [findK_spot hz.2.2 hj hye] at hfd
        have e : addE m x = 7 := by unfold addE; rw [if_neg (by simpa using h0), if_neg (by simpa using h1), if_pos h2]
        have e' : addL m x = [] := by unfold addL; rw [e]; rfl
        rw [e, e'] at hadd
        refine Fn_of _ _ Try.func9 rfl Try.ntmps9 rfl fun c => ?_
        repeat' (first | (refine A_drawi WideF.wide (.q 0 (.q 2 (.e 1 (.r (.e 3 (.q 4 (.e 5 (.done [])))))))) [3, 4, 5] [] [0] (by decide +kernel) (by decide) rfl ?_; simp only [Own.picks, Own.rget, List.cons_append, List.nil_append, List.append_nil]) | (refine E_ef rfl (Ef_call (I := []) WideF.wide hc ⟨rfl, trivial⟩ rfl ?_); rintro v H1 I1 hle1 ⟨⟨a1, c1, rfl, r1, hc1⟩, rfl⟩; refine ⟨⟨hle1, rfl⟩, ?_⟩) | (refine E_ef rfl (Ef_callp WideF.wide (ho _) ⟨rfl, trivial⟩ rfl ?_); refine ⟨Grow.same rfl rfl, ?_⟩) | (refine O_ef rfl (Ef_call (I := []) WideF.wide (hadd _ _ _ r1) ⟨rfl, rfl, trivial⟩ rfl ?_); rintro v H2 I2 hle2 ⟨⟨a2, n2, c2, rfl, r2⟩, rfl⟩; obtain rfl : n2 = 0 := by have h9 := r2.len; simpa using h9.symm) | (refine O_ef rfl (Ef_call (I := []) WideF.wide known_fn trivial rfl ?_); rintro v H3 I3 hle3 ⟨rfl, rfl⟩; have r1 := (r1.mono hle2).mono hle3; have r2 := r2.mono hle3) | (refine O_ef rfl (Ef_callp WideF.wide (hck _ _ _ r1) ⟨rfl, trivial⟩ rfl ?_)) | (refine O_ef rfl (Ef_callp WideF.wide (hcr _) ⟨rfl, trivial⟩ rfl ?_)) | (refine O_ef rfl (Ef_callp WideF.wide (hfd _ _ _ r1) ⟨rfl, rfl, trivial⟩ rfl ?_)) | (refine O_ev WideF.wide rfl (Ev_eqis rfl rfl) rfl rfl ?_) | refine O_nil ?_ | refine A_seq ?_ | refine A_region ?_ | refine A_skip ?_ | refine A_ret ?_ | (show drJ _ _ _ _ _ _ _ (.q _ _) _; refine D_q rfl ?_) | (show drJ _ _ _ _ _ _ _ (.e _ _) _; refine D_e rfl ?_) | (show drJ _ _ _ _ _ _ _ (.r _) _; refine D_r ?_; simp only [List.cons_append, List.nil_append]) | (show drJ _ _ _ _ _ _ _ (.done _) _; refine D_done ?_; simp only [List.cons_append, List.nil_append]) | (show drQ _ _ _ _ _ _; first | refine D_ev rfl (Ev_pure rfl) rfl rfl ?_ | (show drQ _ _ _ ⟨_, .load _ _, _, _, _, _⟩ _ _; refine D_ev rfl (Ev_loadB (i := 0) rfl rfl rfl) rfl rfl ?_)) | (show drE _ _ _ _ _ _ _; (show drE _ _ _ _ ⟨_, .store _ _ _, _, _, _, _⟩ _ _; (refine E_ef rfl (Ef_storew WideF.wide rfl rfl rfl rfl rfl ?_); refine ⟨Grow.same rfl rfl, ?_⟩))) | (show opsA _ _ _ _ _ _ _; first | refine O_ev WideF.wide rfl (Ev_pure rfl) rfl rfl ?_ | (show opsA _ _ _ _ (⟨_, .load _ _, _, _, _, _⟩ :: _) _ _; first | refine O_ev WideF.wide rfl (Ev_loadB1 (i := 0) rfl rfl rfl) rfl rfl ?_ | refine O_ev WideF.wide rfl (Ev_loadB (i := 0) rfl rfl rfl) rfl rfl ?_) | (show opsA _ _ _ _ (⟨_, .fieldAddr _ _ _, _, _, _, _⟩ :: _) _ _; refine O_ev WideF.wide rfl (Ev_fieldAddr rfl rfl rfl) rfl rfl ?_) | (show opsA _ _ _ _ (⟨_, .call _, _, _, _, _⟩ :: _) _ _; refine O_ev WideF.wide rfl (Ev_llen rfl) rfl rfl ?_) | (show opsA _ _ _ _ (⟨_, .unOp _ _ _, _, _, _, _⟩ :: _) _ _; refine O_ev WideF.wide rfl (Ev_notb rfl) rfl rfl ?_) | (show opsA _ _ _ _ (⟨_, .box _ _, _, _, _, _⟩ :: _) _ _; (refine O_ef rfl (Ef_boxa WideF.wide rfl rfl ?_); intro b))) | (show wpA _ _ _ (.cond _ _ _) _ _ _ _; first | (refine A_if rfl (fun h => ?_) (fun h => ?_) <;> try (exfalso; omega)) | refine A_iftrue rfl ?_ | refine A_iffalse rfl ?_))
        all_goals first
          | (exfalso; omega)
          | exact End_e (Ret1 rfl rfl) ⟨rfl, rfl⟩
      · rw [findK_none h2] at hfd
        have e : addE m x = 0 := by unfold addE; rw [if_neg (by simpa using h0), if_neg (by simpa using h1), if_neg h2, if_neg (by omega)]
        have e' : addL m x = putL m x := by unfold addL; rw [if_pos e]
        rw [e, e'] at hadd
        have hput := fun Hx a1 c1 (r1 : HRow Hx a1 N c1 3 (m.map rrow)) => put_fn (r := x) r1 (by omega)
        have hck2 := fun Hx a2 n2 c2 (r2 : HRow Hx a2 n2 c2 3 ((putL m x).map rrow)) => Check_fn r2
        rw [chk_put h0 h1 h2 (by omega)] at hck2
        have hpl := putL_len m x
        have hrem := fun Hx a2 n2 c2 b (hn2 : n2 ≤ 100) (r2 : HRow Hx a2 n2 c2 3 ((putL m x).map rrow)) (ri : HRow Hx (some ⟨b, 0, none⟩) 1 1 1 ([x.id].map irow)) => Remove_fn r2 ri (by omega) (by decide)
        rw [remL_put h2] at hrem
        refine Fn_of _ _ Try.func9 rfl Try.ntmps9 rfl fun c => ?_
        repeat' (first | (refine A_drawi WideF.wide (.q 0 (.q 2 (.e 1 (.r (.e 3 (.q 4 (.e 5 (.done [])))))))) [3, 4, 5] [] [0] (by decide +kernel) (by decide) rfl ?_; simp only [Own.picks, Own.rget, List.cons_append, List.nil_append, List.append_nil]) | (refine E_ef rfl (Ef_call (I := []) WideF.wide hc ⟨rfl, trivial⟩ rfl ?_); rintro v H1 I1 hle1 ⟨⟨a1, c1, rfl, r1, hc1⟩, rfl⟩; refine ⟨⟨hle1, rfl⟩, ?_⟩) | (refine E_ef rfl (Ef_callp WideF.wide (ho _) ⟨rfl, trivial⟩ rfl ?_); refine ⟨Grow.same rfl rfl, ?_⟩) | (refine O_ef rfl (Ef_call (I := []) WideF.wide (hadd _ _ _ r1) ⟨rfl, rfl, trivial⟩ rfl ?_); rintro v H2 I2 hle2 ⟨⟨a2, n2, c2, rfl, r2⟩, rfl⟩; have hn2 : n2 ≤ 100 := (by have h9 := r2.len; rw [List.length_map] at h9; omega)) | (refine O_ef rfl (Ef_call (I := []) WideF.wide known_fn trivial rfl ?_); rintro v H3 I3 hle3 ⟨rfl, rfl⟩; have r1 := (r1.mono hle2).mono hle3; have r2 := r2.mono hle3) | (refine O_ef rfl (Ef_callp WideF.wide (hck _ _ _ r1) ⟨rfl, trivial⟩ rfl ?_)) | (refine O_ef rfl (Ef_callp WideF.wide (hcr _) ⟨rfl, trivial⟩ rfl ?_)) | (refine O_ef rfl (Ef_callp WideF.wide (hfd _ _ _ r1) ⟨rfl, rfl, trivial⟩ rfl ?_)) | (refine O_ev WideF.wide rfl (Ev_eqis rfl rfl) rfl rfl ?_) | (refine O_ef rfl (Ef_call (I := []) WideF.wide (hput _ _ _ r1) ⟨rfl, rfl, trivial⟩ rfl ?_); rintro v H4 I4 hle4 ⟨⟨a4, n4, c4, rfl, r4⟩, rfl⟩; have r2 := r2.mono hle4; have r1 := r1.mono hle4; have hs1 := sameRevs_self r2 r4 (by omega)) | (refine O_ef rfl (Ef_callp WideF.wide hs1 ⟨rfl, rfl, trivial⟩ rfl ?_)) | (refine O_ef rfl (Ef_callp WideF.wide (hck2 _ _ _ _ r2) ⟨rfl, trivial⟩ rfl ?_)) | (refine O_freeze (css := [irow x.id]) (irow_one [x.id]) ?_; intro H5 hle5 r5; refine O_ef rfl (Ef_call (I := []) WideF.wide (hrem _ _ _ _ _ (by omega) (r2.mono hle5) r5) ⟨rfl, rfl, trivial⟩ rfl ?_); rintro v H6 I6 hle6 ⟨⟨a6, n6, c6, rfl, r6⟩, rfl⟩; have hs2 := sameRevs_self r6 ((r1.mono hle5).mono hle6) (by have h9 := r6.len; rw [List.length_map] at h9; omega)) | (refine O_ef rfl (Ef_callp WideF.wide hs2 ⟨rfl, rfl, trivial⟩ rfl ?_)) | refine O_nil ?_ | refine A_seq ?_ | refine A_region ?_ | refine A_skip ?_ | refine A_ret ?_ | (show drJ _ _ _ _ _ _ _ (.q _ _) _; refine D_q rfl ?_) | (show drJ _ _ _ _ _ _ _ (.e _ _) _; refine D_e rfl ?_) | (show drJ _ _ _ _ _ _ _ (.r _) _; refine D_r ?_; simp only [List.cons_append, List.nil_append]) | (show drJ _ _ _ _ _ _ _ (.done _) _; refine D_done ?_; simp only [List.cons_append, List.nil_append]) | (show drQ _ _ _ _ _ _; first | refine D_ev rfl (Ev_pure rfl) rfl rfl ?_ | (show drQ _ _ _ ⟨_, .load _ _, _, _, _, _⟩ _ _; refine D_ev rfl (Ev_loadB (i := 0) rfl rfl rfl) rfl rfl ?_)) | (show drE _ _ _ _ _ _ _; (show drE _ _ _ _ ⟨_, .store _ _ _, _, _, _, _⟩ _ _; (refine E_ef rfl (Ef_storew WideF.wide rfl rfl rfl rfl rfl ?_); refine ⟨Grow.same rfl rfl, ?_⟩))) | (show opsA _ _ _ _ _ _ _; first | refine O_ev WideF.wide rfl (Ev_pure rfl) rfl rfl ?_ | (show opsA _ _ _ _ (⟨_, .load _ _, _, _, _, _⟩ :: _) _ _; first | refine O_ev WideF.wide rfl (Ev_loadB1 (i := 0) rfl rfl rfl) rfl rfl ?_ | refine O_ev WideF.wide rfl (Ev_loadB (i := 0) rfl rfl rfl) rfl rfl ?_) | (show opsA _ _ _ _ (⟨_, .fieldAddr _ _ _, _, _, _, _⟩ :: _) _ _; refine O_ev WideF.wide rfl (Ev_fieldAddr rfl rfl rfl) rfl rfl ?_) | (show opsA _ _ _ _ (⟨_, .buildSlice _ _ _, _, _, _, _⟩ :: _) _ _; (refine O_ef rfl (Ef_build11 WideF.wide rfl rfl rfl ?_); intro b)) | (show opsA _ _ _ _ (⟨_, .unOp _ _ _, _, _, _, _⟩ :: _) _ _; refine O_ev WideF.wide rfl (Ev_notb rfl) rfl rfl ?_) | (show opsA _ _ _ _ (⟨_, .box _ _, _, _, _, _⟩ :: _) _ _; (refine O_ef rfl (Ef_boxa WideF.wide rfl rfl ?_); intro b))) | (show wpA _ _ _ (.cond _ _ _) _ _ _ _; first | (refine A_if rfl (fun h => ?_) (fun h => ?_) <;> try (exfalso; omega)) | refine A_iftrue rfl ?_ | refine A_iffalse rfl ?_))
        all_goals first
          | (exfalso; omega)
          | exact End_e (Ret1 rfl rfl) ⟨rfl, rfl⟩
    · have e : addE m x = chkRev x := by unfold addE; rw [if_neg (by simpa using h0), if_pos h1]
      have e' : addL m x = [] := by unfold addL; rw [e, if_neg h1]
      rw [e, e'] at hadd
      rw [h0] at hck
      refine Fn_of _ _ Try.func9 rfl Try.ntmps9 rfl fun c => ?_
      repeat' (first | (refine A_drawi WideF.wide (.q 0 (.q 2 (.e 1 (.r (.e 3 (.q 4 (.e 5 (.done [])))))))) [3, 4, 5] [] [0] (by decide +kernel) (by decide) rfl ?_; simp only [Own.picks, Own.rget, List.cons_append, List.nil_append, List.append_nil]) | (refine E_ef rfl (Ef_call (I := []) WideF.wide hc ⟨rfl, trivial⟩ rfl ?_); rintro v H1 I1 hle1 ⟨⟨a1, c1, rfl, r1, hc1⟩, rfl⟩; refine ⟨⟨hle1, rfl⟩, ?_⟩) | (refine E_ef rfl (Ef_callp WideF.wide (ho _) ⟨rfl, trivial⟩ rfl ?_); refine ⟨Grow.same rfl rfl, ?_⟩) | (refine O_ef rfl (Ef_call (I := []) WideF.wide (hadd _ _ _ r1) ⟨rfl, rfl, trivial⟩ rfl ?_); rintro v H2 I2 hle2 ⟨⟨a2, n2, c2, rfl, r2⟩, rfl⟩; obtain rfl : n2 = 0 := by have h9 := r2.len; simpa using h9.symm) | (refine O_ef rfl (Ef_call (I := []) WideF.wide known_fn trivial rfl ?_); rintro v H3 I3 hle3 ⟨rfl, rfl⟩; have r1 := (r1.mono hle2).mono hle3; have r2 := r2.mono hle3) | (refine O_ef rfl (Ef_callp WideF.wide (hck _ _ _ r1) ⟨rfl, trivial⟩ rfl ?_)) | (refine O_ef rfl (Ef_callp WideF.wide (hcr _) ⟨rfl, trivial⟩ rfl ?_)) | (refine O_ev WideF.wide rfl (Ev_eqis rfl rfl) rfl rfl ?_) | refine O_nil ?_ | refine A_seq ?_ | refine A_region ?_ | refine A_skip ?_ | refine A_ret ?_ | (show drJ _ _ _ _ _ _ _ (.q _ _) _; refine D_q rfl ?_) | (show drJ _ _ _ _ _ _ _ (.e _ _) _; refine D_e rfl ?_) | (show drJ _ _ _ _ _ _ _ (.r _) _; refine D_r ?_; simp only [List.cons_append, List.nil_append]) | (show drJ _ _ _ _ _ _ _ (.done _) _; refine D_done ?_; simp only [List.cons_append, List.nil_append]) | (show drQ _ _ _ _ _ _; first | refine D_ev rfl (Ev_pure rfl) rfl rfl ?_ | (show drQ _ _ _ ⟨_, .load _ _, _, _, _, _⟩ _ _; refine D_ev rfl (Ev_loadB (i := 0) rfl rfl rfl) rfl rfl ?_)) | (show drE _ _ _ _ _ _ _; (show drE _ _ _ _ ⟨_, .store _ _ _, _, _, _, _⟩ _ _; (refine E_ef rfl (Ef_storew WideF.wide rfl rfl rfl rfl rfl ?_); refine ⟨Grow.same rfl rfl, ?_⟩))) | (show opsA _ _ _ _ _ _ _; first | (refine O_split rfl rfl (fun h => ?_) (fun h => ?_) <;> try (exfalso; omega)) | refine O_ev WideF.wide rfl (Ev_pure rfl) rfl rfl ?_ | (show opsA _ _ _ _ (⟨_, .load _ _, _, _, _, _⟩ :: _) _ _; refine O_ev WideF.wide rfl (Ev_loadB (i := 0) rfl rfl rfl) rfl rfl ?_) | (show opsA _ _ _ _ (⟨_, .call _, _, _, _, _⟩ :: _) _ _; refine O_ev WideF.wide rfl (Ev_llen rfl) rfl rfl ?_) | (show opsA _ _ _ _ (⟨_, .unOp _ _ _, _, _, _, _⟩ :: _) _ _; refine O_ev WideF.wide rfl (Ev_notb rfl) rfl rfl ?_) | (show opsA _ _ _ _ (⟨_, .box _ _, _, _, _, _⟩ :: _) _ _; (refine O_ef rfl (Ef_boxa WideF.wide rfl rfl ?_); intro b)) | refine O_skip WideF.wide rfl rfl rfl ?_) | (show wpA _ _ _ (.cond _ _ _) _ _ _ _; first | (refine A_if rfl (fun h => ?_) (fun h => ?_) <;> try (exfalso; omega)) | refine A_iftrue rfl ?_ | refine A_iffalse rfl ?_))
      all_goals first
        | (exfalso; omega)
        | (exfalso; exact h1 (by assumption))
        | exact End_e (Ret1 rfl rfl) ⟨rfl, rfl⟩
  · have e : addE m x = chk m := by unfold addE; rw [if_pos h0]
    have e' : addL m x = [] := by unfold addL; rw [e, if_neg h0]
    rw [e, e'] at hadd
    refine Fn_of _ _ Try.func9 rfl Try.ntmps9 rfl fun c => ?_
    repeat' (first | (refine A_drawi WideF.wide (.q 0 (.q 2 (.e 1 (.r (.e 3 (.q 4 (.e 5 (.done [])))))))) [3, 4, 5] [] [0] (by decide +kernel) (by decide) rfl ?_; simp only [Own.picks, Own.rget, List.cons_append, List.nil_append, List.append_nil]) | (refine E_ef rfl (Ef_call (I := []) WideF.wide hc ⟨rfl, trivial⟩ rfl ?_); rintro v H1 I1 hle1 ⟨⟨a1, c1, rfl, r1, hc1⟩, rfl⟩; refine ⟨⟨hle1, rfl⟩, ?_⟩) | (refine E_ef rfl (Ef_callp WideF.wide (ho _) ⟨rfl, trivial⟩ rfl ?_); refine ⟨Grow.same rfl rfl, ?_⟩) | (refine O_ef rfl (Ef_call (I := []) WideF.wide (hadd _ _ _ r1) ⟨rfl, rfl, trivial⟩ rfl ?_); rintro v H2 I2 hle2 ⟨⟨a2, n2, c2, rfl, r2⟩, rfl⟩; obtain rfl : n2 = 0 := by have h9 := r2.len; simpa using h9.symm) | (refine O_ef rfl (Ef_call (I := []) WideF.wide known_fn trivial rfl ?_); rintro v H3 I3 hle3 ⟨rfl, rfl⟩; have r1 := (r1.mono hle2).mono hle3; have r2 := r2.mono hle3) | (refine O_ef rfl (Ef_callp WideF.wide (hck _ _ _ r1) ⟨rfl, trivial⟩ rfl ?_)) | (refine O_ev WideF.wide rfl (Ev_eqis rfl rfl) rfl rfl ?_) | refine O_nil ?_ | refine A_seq ?_ | refine A_region ?_ | refine A_skip ?_ | refine A_ret ?_ | (show drJ _ _ _ _ _ _ _ (.q _ _) _; refine D_q rfl ?_) | (show drJ _ _ _ _ _ _ _ (.e _ _) _; refine D_e rfl ?_) | (show drJ _ _ _ _ _ _ _ (.r _) _; refine D_r ?_; simp only [List.cons_append, List.nil_append]) | (show drJ _ _ _ _ _ _ _ (.done _) _; refine D_done ?_; simp only [List.cons_append, List.nil_append]) | (show drQ _ _ _ _ _ _; first | refine D_ev rfl (Ev_pure rfl) rfl rfl ?_ | (show drQ _ _ _ ⟨_, .load _ _, _, _, _, _⟩ _ _; refine D_ev rfl (Ev_loadB (i := 0) rfl rfl rfl) rfl rfl ?_)) | (show drE _ _ _ _ _ _ _; (show drE _ _ _ _ ⟨_, .store _ _ _, _, _, _, _⟩ _ _; (refine E_ef rfl (Ef_storew WideF.wide rfl rfl rfl rfl rfl ?_); refine ⟨Grow.same rfl rfl, ?_⟩))) | (show opsA _ _ _ _ _ _ _; first | (refine O_split rfl rfl (fun h => ?_) (fun h => ?_) <;> try (exfalso; omega)) | refine O_ev WideF.wide rfl (Ev_pure rfl) rfl rfl ?_ | (show opsA _ _ _ _ (⟨_, .load _ _, _, _, _, _⟩ :: _) _ _; refine O_ev WideF.wide rfl (Ev_loadB (i := 0) rfl rfl rfl) rfl rfl ?_) | (show opsA _ _ _ _ (⟨_, .call _, _, _, _, _⟩ :: _) _ _; refine O_ev WideF.wide rfl (Ev_llen rfl) rfl rfl ?_) | (show opsA _ _ _ _ (⟨_, .unOp _ _ _, _, _, _, _⟩ :: _) _ _; refine O_ev WideF.wide rfl (Ev_notb rfl) rfl rfl ?_) | (show opsA _ _ _ _ (⟨_, .box _ _, _, _, _, _⟩ :: _) _ _; (refine O_ef rfl (Ef_boxa WideF.wide rfl rfl ?_); intro b)) | refine O_skip WideF.wide rfl rfl rfl ?_) | (show wpA _ _ _ (.cond _ _ _) _ _ _ _; first | (refine A_if rfl (fun h => ?_) (fun h => ?_) <;> try (exfalso; omega)) | refine A_iffalse rfl ?_))
    all_goals first
      | (exfalso; omega)
      | (exfalso; exact h0 (by assumption))
      | exact End_e (Ret1 rfl rfl) ⟨rfl, rfl⟩
end Go.Proofs.Ytlcoebomgaodgaa
