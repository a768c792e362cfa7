import Derived.Test.YtnoadopmeoohmaaGreatDoorZ12
/-
  The functions of the language, as data and as closures. Printed by genF18.py.
-/
namespace Go.Proofs.YtnoadopmeoohmaaGreatDoor
open Go
set_option linter.unusedVariables false
set_option linter.unusedSimpArgs false
def foldV (f : Int → Int → Int) (l : List Val) (z : Int) : Int := l.foldl (fun o v => f o v.num) z
def minI (a b : Int) : Int := if b < a then b else a
def maxI (a b : Int) : Int := if a < b then b else a
def sumI (a b : Int) : Int := w64 (a + b)
def flip (fr : Nat) (c : UInt8) : UInt8 := if fr ≤ c.toNat ∧ c.toNat < fr + 26 then c ^^^ 32 else c
def toNum (v : Val) : Val × Int :=
  if v.kind ≠ 2 then (zV, 3)
  else if (digR (Lib.trimPrefix v.text [45])).2 ≠ 0 then (zV, (digR (Lib.trimPrefix v.text [45])).2)
  else (numV (if (Lib.trimPrefix v.text [45]).length < v.text.length then w64 (0 - (digR (Lib.trimPrefix v.text [45])).1) else (digR (Lib.trimPrefix v.text [45])).1), 0)
/-- a value that a function of values of one kind gives -/
def ofV (k : Int) (l : List Val) (r : Val) : Val × Int := if allK l k then chkV r else (zV, 3)
noncomputable def fcall (s : List UInt8) (l : List Val) : Val × Int :=
  if s = [109, 105, 110] then ofV 1 l (numV (foldV minI l (v0 l).num))
  else if s = [109, 97, 120] then ofV 1 l (numV (foldV maxI l (v0 l).num))
  else if s = [115, 117, 109] then ofV 1 l (numV (foldV sumI l 0))
  else if s = [97, 98, 115] then ofV 1 l (numV (absI (v0 l).num))
  else if s = [108, 101, 110] then ofV 2 l (numV (count (v0 l).text))
  else if s = [117, 112, 112, 101, 114] then ofV 2 l (txtV ((v0 l).text.map (flip 97)))
  else if s = [108, 111, 119, 101, 114] then ofV 2 l (txtV ((v0 l).text.map (flip 65)))
  else if s = [116, 101, 120, 116] then chkV (txtV (shwV (v0 l)))
  else if s = [110, 117, 109, 98, 101, 114] then toNum (v0 l)
  else (zV, 0)
theorem trim_le (l p : List UInt8) : (Lib.trimPrefix l p).length ≤ l.length := by
  unfold Lib.trimPrefix
  split
  · rw [List.length_drop]; omega
  · exact Nat.le_refl _
theorem foldV_take {f : Int → Int → Int} {l : List Val} {z : Int} {i : Nat} {x : Val} (h : l[i]? = some x) : foldV f (l.take (i + 1)) z = f (foldV f (l.take i) z) x.num := by
  unfold foldV
  rw [take_getN h, List.foldl_append]
  rfl
/-- the cells of the first value -/
theorem row_first {H : Hp} {a : Option Addr} {n cp : Nat} {l : List Val} (hx : HRow H a n cp 3 (l.map vlrow)) (hn : 0 < n) : ∃ b o, a = some ⟨b, o, none⟩ ∧ HCells H b (o + 0 * 3) [.int .i64 (v0 l).kind, .int .i64 (v0 l).num, sv (v0 l).text] := by
  obtain ⟨b, o, x, rfl, hxi, hc⟩ := hx.atm 0 hn
  have : v0 l = x := by unfold v0; simp [List.getD, hxi]
  rw [this]
  exact ⟨b, o, rfl, hc⟩
attribute [local irreducible] wpA opsA drJ drQ drE Ef Ev Shift Fn
set_option maxRecDepth 100000 in
set_option maxHeartbeats 4000000 in
theorem of1_fn {g : FuncId} [FunC Tryz.prog g] {caps : List Value} {H : Hp} {a : Option Addr} {n cp : Nat} {l : List Val} {k : Int} {r : Val} {b1 b2 : Nat} (hx : HRow H a n cp 3 (l.map vlrow)) (hn : n < 4611686018427387904) (hb1 : H b1 0 = some (.int .i64 k)) (hb2 : H b2 0 = some (.func (.func g) #[] caps.toArray))
    (hg : allK l k = true → ∀ H', HLe H H' → Fn Tryz.prog g ([.slice a n cp] ++ caps) H' [] fun v _ I => v = rV r ∧ I = []) (hr : r.text.length < 4611686018427387904) :
    Fn Tryz.prog 150 [.slice a n cp, .pointer (some ⟨b1, 0, none⟩), .pointer (some ⟨b2, 0, none⟩)] H [] fun v _ I => v = rVE (ofV k l r) ∧ I = [] := by
  have kk := kinds_fn (k := k) hx hn
  unfold ofV
  cases hk : allK l k <;> rw [hk] at kk
  · simp only [Bool.false_eq_true, if_false]
    refine Fn_of _ _ Tryz.func150 rfl Tryz.ntmps150 rfl fun c => ?_
    repeat' (first | (refine O_ev WideF.wide rfl (Ev_loadH1 rfl hb1) rfl rfl ?_) | (refine O_ef rfl (Ef_call (I := []) WideF.wide kk ⟨rfl, rfl, trivial⟩ rfl ?_); rintro v1 H1 I1 hle1 ⟨rfl, rfl⟩) | refine O_nil ?_ | refine A_seq ?_ | refine A_region ?_ | refine A_ret ?_ | (show opsA _ _ _ _ _ _ _; first | refine O_ev WideF.wide rfl (Ev_pure rfl) rfl rfl ?_ | (show opsA _ _ _ _ (⟨_, .unOp _ _ _, _, _, _, _⟩ :: _) _ _; refine O_ev WideF.wide rfl (Ev_notb rfl) rfl rfl ?_) | (show opsA _ _ _ _ (⟨_, .build _ _, _, _, _, _⟩ :: _) _ _; refine O_ev WideF.wide rfl (Ev_build (vs := []) trivial rfl) rfl rfl ?_) | (show opsA _ _ _ _ (⟨_, .alloc _, _, _, _, _⟩ :: _) _ _; (refine O_ef rfl (Ef_alloc WideF.wide rfl ?_); intro b)) | (show opsA _ _ _ _ (⟨_, .store _ _ _, _, _, _, _⟩ :: _) _ _; refine O_ef rfl (Ef_storew WideF.wide rfl rfl rfl rfl rfl ?_))) | (show wpA _ _ _ (.cond _ _ _) _ _ _ _; refine A_iftrue rfl ?_))
    all_goals first
      | (exfalso; omega)
      | (exfalso; contradiction)
      | (exfalso; exact absurd trivial (by assumption))
      | (exfalso; exact absurd rfl (by assumption))
      | exact End_e (RetC2 (i := 0) rfl rfl rfl rfl rfl) ⟨rfl, rfl⟩
      | trace_state
  · simp only [if_true]
    have kg := hg hk
    refine Fn_of _ _ Tryz.func150 rfl Tryz.ntmps150 rfl fun c => ?_
    repeat' (first | (refine O_ev WideF.wide rfl (Ev_loadH1 rfl hb1) rfl rfl ?_) | (refine O_ef rfl (Ef_call (I := []) WideF.wide kk ⟨rfl, rfl, trivial⟩ rfl ?_); rintro v1 H1 I1 hle1 ⟨rfl, rfl⟩) | (refine O_ev WideF.wide rfl (Ev_loadH1 rfl (hle1 _ _ _ hb2)) rfl rfl ?_) | (refine O_ef rfl (Ef_callc (I := []) (args := [.slice a n cp]) (caps := caps) WideF.wide (kg _ hle1) rfl ⟨rfl, trivial⟩ rfl ?_); rintro v3 H3 I3 hle3 ⟨rfl, rfl⟩) | (refine O_ef rfl (Ef_call (I := []) WideF.wide (checked_fn (x := r) (hr)) ⟨rfl, trivial⟩ rfl ?_); rintro v2 H2 I2 hle2 ⟨rfl, rfl⟩) | refine O_nil ?_ | refine A_seq ?_ | refine A_region ?_ | refine A_skip ?_ | refine A_ret ?_ | (show opsA _ _ _ _ _ _ _; first | refine O_ev WideF.wide rfl (Ev_pure rfl) rfl rfl ?_ | (show opsA _ _ _ _ (⟨_, .unOp _ _ _, _, _, _, _⟩ :: _) _ _; refine O_ev WideF.wide rfl (Ev_notb rfl) rfl rfl ?_) | (show opsA _ _ _ _ (⟨_, .alloc _, _, _, _, _⟩ :: _) _ _; (refine O_ef rfl (Ef_alloc WideF.wide rfl ?_); intro b)) | (show opsA _ _ _ _ (⟨_, .store _ _ _, _, _, _, _⟩ :: _) _ _; refine O_ef rfl (Ef_storew WideF.wide rfl rfl rfl rfl rfl ?_))) | (show wpA _ _ _ (.cond _ _ _) _ _ _ _; refine A_iffalse rfl ?_))
    all_goals first
      | (exfalso; omega)
      | (exfalso; contradiction)
      | (exfalso; exact absurd trivial (by assumption))
      | (exfalso; exact absurd rfl (by assumption))
      | exact End_e (RetC2 (i := 0) rfl rfl rfl rfl rfl) ⟨rfl, rfl⟩
      | trace_state
set_option maxRecDepth 100000 in
set_option maxHeartbeats 4000000 in
theorem best1_fn {h : FuncId} [FunC Tryz.prog h] {cf : Int → Int → Int} (hh : ∀ (H : Hp) (x y : Int), FnP Tryz.prog h [.int .i64 x, .int .i64 y] H (.int .i64 (cf x y))) {H : Hp} {a : Option Addr} {n cp : Nat} {l : List Val} {b1 : Nat} (hx : HRow H a n cp 3 (l.map vlrow)) (hn : n < 4611686018427387904) (h0 : 0 < n) (hb1 : H b1 0 = some (.func (.func h) #[] #[])) :
    Fn Tryz.prog 149 [.slice a n cp, .pointer (some ⟨b1, 0, none⟩)] H [] fun v _ I => v = rV (numV (foldV cf l (v0 l).num)) ∧ I = [] := by
  have hln : l.length = n := by have := hx.len; simpa using this
  obtain ⟨bb, oo, rfl, hf⟩ := row_first hx h0
  refine Fn_of _ _ Tryz.func149 rfl Tryz.ntmps149 rfl fun c => ?_
  repeat' (first | (refine O_ev WideF.wide rfl (Ev_loadH1 rfl (hf 1 _ rfl)) rfl rfl ?_) | refine O_nil ?_ | refine A_seq ?_ | refine A_region ?_ | refine A_block ?_ | (show opsA _ _ _ _ _ _ _; first | refine O_ev WideF.wide rfl (Ev_pure rfl) rfl rfl ?_ | (show opsA _ _ _ _ (⟨_, .indexAddr _ _ _, _, _, _, _⟩ :: _) _ _; refine O_ev WideF.wide rfl (Ev_indexAddr rfl rfl (by omega) (by omega)) rfl rfl ?_) | (show opsA _ _ _ _ (⟨_, .fieldAddr _ _ _, _, _, _, _⟩ :: _) _ _; refine O_ev WideF.wide rfl (Ev_fieldAddr rfl rfl rfl) rfl rfl ?_) | (show opsA _ _ _ _ (⟨_, .call _, _, _, _, _⟩ :: _) _ _; refine O_ev WideF.wide rfl (Ev_llen rfl) rfl rfl ?_) | (show opsA _ _ _ _ (⟨_, .alloc _, _, _, _, _⟩ :: _) _ _; (refine O_ef rfl (Ef_alloc WideF.wide rfl ?_); intro b))))
  all_goals try (exfalso; omega)
  refine A_loopu (fun q s => ∃ (i b3 : Nat) (cs : List Value), q = n - i ∧ i ≤ n ∧ cs.length = 3 ∧ s = ⟨25, [(1, .pointer (some ⟨b1, 0, none⟩)), (3, .pointer (some ⟨b3, 0, none⟩)), (4, .int .i64 (foldV cf (l.take i) (v0 l).num)), (11, .slice (some ⟨bb, oo, none⟩) n cp), (12, .int .i64 n), (13, .int .i64 i)], H, [.box b3 cs], [], []⟩) ?_ ?_
  · exact Shift.to ⟨_, 0, _, _, rfl, by omega, rfl, rfl⟩ ⟨rfl, rfl, rfl, ⟨rfl, rfl, rfl, rfl, rfl, rfl, trivial⟩, Own.subi [0] (by decide) rfl rfl⟩
  rintro q s ⟨i, b3, cs, rfl, hi, hcs, rfl⟩
  obtain ⟨z1, z2, z3, rfl⟩ : ∃ z1 z2 z3, cs = [z1, z2, z3] := by
    match cs, hcs with
    | [x, y, z], _ => exact ⟨x, y, z, rfl⟩
  by_cases hlt : i < n
  · obtain ⟨b', o', x, heq, hxi, hc⟩ := hx.atm i hlt
    cases heq
    have hcall := hh H (foldV cf (l.take i) (v0 l).num) x.num
    have hs1 := foldV_take (f := cf) (z := (v0 l).num) hxi
    rw [← hs1] at hcall
    unfold vlrow at hc
    repeat' (first | (refine O_ev WideF.wide rfl (Ev_loadH rfl hc rfl) rfl rfl ?_) | (refine O_ev WideF.wide rfl (Ev_loadH1 rfl hb1) rfl rfl ?_) | (refine O_ef rfl (Ef_callvp WideF.wide hcall rfl ⟨rfl, rfl, trivial⟩ rfl ?_)) | refine O_nil ?_ | refine A_seq ?_ | refine A_region ?_ | refine A_skip ?_ | refine A_block ?_ | (show opsA _ _ _ _ _ _ _; first | refine O_ev WideF.wide rfl (Ev_pure rfl) rfl rfl ?_ | (show opsA _ _ _ _ (⟨_, .load _ _, _, _, _, _⟩ :: _) _ _; refine O_ev WideF.wide rfl (Ev_loadB1 (i := 0) rfl rfl rfl) rfl rfl ?_) | (show opsA _ _ _ _ (⟨_, .indexAddr _ _ _, _, _, _, _⟩ :: _) _ _; refine O_ev WideF.wide rfl (Ev_indexAddr rfl rfl (by omega) (by omega)) rfl rfl ?_) | (show opsA _ _ _ _ (⟨_, .fieldAddr _ _ _, _, _, _, _⟩ :: _) _ _; refine O_ev WideF.wide rfl (Ev_fieldAddr rfl rfl rfl) rfl rfl ?_) | (show opsA _ _ _ _ (⟨_, .binOp _ _ _ _ _, _, _, _, _⟩ :: _) _ _; refine O_ev WideF.wide rfl (Ev_add rfl rfl (wi64 (by omega))) rfl rfl ?_) | (show opsA _ _ _ _ (⟨_, .alloc _, _, _, _, _⟩ :: _) _ _; (refine O_ef rfl (Ef_alloc WideF.wide rfl ?_); intro b)) | (show opsA _ _ _ _ (⟨_, .store _ _ _, _, _, _, _⟩ :: _) _ _; refine O_ef rfl (Ef_storew WideF.wide rfl rfl rfl rfl rfl ?_))) | (show wpA _ _ _ (.cond _ _ _) _ _ _ _; (refine A_if rfl (fun h => ?_) (fun h => ?_) <;> try (exfalso; omega))))
    all_goals first
      | (exfalso; omega)
      | (exfalso; contradiction)
      | (exfalso; exact absurd trivial (by assumption))
      | (exfalso; exact absurd rfl (by assumption))
      | exact Shift.to ⟨_, by omega, i + 1, _, _, rfl, by omega, rfl, rfl⟩ ⟨rfl, rfl, rfl, ⟨rfl, rfl, rfl, rfl, rfl, rfl, trivial⟩, Own.subi [1] (by decide) rfl rfl⟩
      | exact Shift.to ⟨_, by omega, i + 1, _, _, rfl, by omega, rfl, rfl⟩ ⟨rfl, rfl, rfl, ⟨rfl, rfl, rfl, rfl, rfl, rfl, trivial⟩, Own.subi [0] (by decide) rfl rfl⟩
      | trace_state
  · obtain rfl : i = n := by omega
    rw [List.take_of_length_le (by omega)]
    repeat' (first | (refine O_ef rfl (Ef_call (I := []) WideF.wide (number_fn (n := _)) ⟨rfl, trivial⟩ rfl ?_); rintro v1 H1 I1 hle1 ⟨rfl, rfl⟩) | refine O_nil ?_ | refine A_seq ?_ | refine A_region ?_ | refine A_ret ?_ | (show opsA _ _ _ _ _ _ _; first | refine O_ev WideF.wide rfl (Ev_pure rfl) rfl rfl ?_ | (show opsA _ _ _ _ (⟨_, .store _ _ _, _, _, _, _⟩ :: _) _ _; refine O_ef rfl (Ef_storew WideF.wide rfl rfl rfl rfl rfl ?_))) | (show wpA _ _ _ (.exit _) _ _ _ _; refine A_exit rfl ?_) | (show wpA _ _ _ (.cond _ _ _) _ _ _ _; (refine A_if rfl (fun h => ?_) (fun h => ?_) <;> try (exfalso; omega))))
    all_goals first
      | (exfalso; omega)
      | (exfalso; contradiction)
      | (exfalso; exact absurd trivial (by assumption))
      | (exfalso; exact absurd rfl (by assumption))
      | exact End_e (RetC (i := 0) rfl rfl rfl rfl) ⟨rfl, rfl⟩
      | trace_state
theorem min_fn (H : Hp) (x y : Int) : FnP Tryz.prog 115 [.int .i64 x, .int .i64 y] H (.int .i64 (minI x y)) := by
  refine Fn_of _ _ Tryz.func115 rfl Tryz.ntmps115 rfl fun c => ?_
  repeat' (first | (refine O_ev WideF.wide rfl (Ev_mini rfl rfl) rfl rfl ?_) | refine O_nil ?_ | refine A_seq ?_ | refine A_region ?_ | refine A_ret ?_ | (show opsA _ _ _ _ _ _ _; refine O_ev WideF.wide rfl (Ev_pure rfl) rfl rfl ?_))
  exact End_p (Ret1 rfl rfl) rfl
theorem max_fn (H : Hp) (x y : Int) : FnP Tryz.prog 116 [.int .i64 x, .int .i64 y] H (.int .i64 (maxI x y)) := by
  refine Fn_of _ _ Tryz.func116 rfl Tryz.ntmps116 rfl fun c => ?_
  repeat' (first | refine O_nil ?_ | refine A_seq ?_ | refine A_region ?_ | refine A_ret ?_ | (show opsA _ _ _ _ _ _ _; first | refine O_ev WideF.wide rfl (Ev_pure rfl) rfl rfl ?_ | (show opsA _ _ _ _ (⟨_, .call _, _, _, _, _⟩ :: _) _ _; refine O_ev WideF.wide rfl (Ev_maxi rfl rfl) rfl rfl ?_)))
  exact End_p (Ret1 rfl rfl) rfl
set_option maxRecDepth 100000 in
set_option maxHeartbeats 4000000 in
theorem sum3_fn {H : Hp} {a : Option Addr} {n cp : Nat} {l : List Val} (hx : HRow H a n cp 3 (l.map vlrow)) (hn : n < 4611686018427387904) :
    Fn Tryz.prog 118 [.slice a n cp] H [] fun v _ I => v = rV (numV (foldV sumI l 0)) ∧ I = [] := by
  have hln : l.length = n := by have := hx.len; simpa using this
  refine Fn_of _ _ Tryz.func118 rfl Tryz.ntmps118 rfl fun c => ?_
  repeat' (first | refine O_nil ?_ | refine A_seq ?_ | refine A_region ?_ | refine A_block ?_ | (show opsA _ _ _ _ _ _ _; first | refine O_ev WideF.wide rfl (Ev_pure rfl) rfl rfl ?_ | (show opsA _ _ _ _ (⟨_, .call _, _, _, _, _⟩ :: _) _ _; refine O_ev WideF.wide rfl (Ev_llen rfl) rfl rfl ?_) | (show opsA _ _ _ _ (⟨_, .alloc _, _, _, _, _⟩ :: _) _ _; (refine O_ef rfl (Ef_alloc WideF.wide rfl ?_); intro b))))
  all_goals try (exfalso; omega)
  refine A_loopu (fun q s => ∃ (i b3 : Nat) (cs : List Value), q = n - i ∧ i ≤ n ∧ cs.length = 3 ∧ s = ⟨19, [(2, .pointer (some ⟨b3, 0, none⟩)), (3, .int .i64 (foldV sumI (l.take i) 0)), (6, .slice a n cp), (7, .int .i64 n), (8, .int .i64 i)], H, [.box b3 cs], [], []⟩) ?_ ?_
  · exact Shift.to ⟨_, 0, _, _, rfl, by omega, rfl, rfl⟩ ⟨rfl, rfl, rfl, ⟨rfl, rfl, rfl, rfl, rfl, trivial⟩, Own.subi [0] (by decide) rfl rfl⟩
  rintro q s ⟨i, b3, cs, rfl, hi, hcs, rfl⟩
  obtain ⟨z1, z2, z3, rfl⟩ : ∃ z1 z2 z3, cs = [z1, z2, z3] := by
    match cs, hcs with
    | [x, y, z], _ => exact ⟨x, y, z, rfl⟩
  by_cases hlt : i < n
  · obtain ⟨b', o', x, rfl, hxi, hc⟩ := hx.atm i hlt
    have hs1 := foldV_take (f := sumI) (z := 0) hxi
    unfold vlrow at hc
    repeat' (first | (refine O_ev WideF.wide rfl (Ev_loadH rfl hc rfl) rfl rfl ?_) | (refine O_ev WideF.wide rfl (Ev_add (r := sumI _ _) rfl rfl rfl) rfl rfl ?_; rw [← hs1]) | refine O_nil ?_ | refine A_seq ?_ | refine A_region ?_ | refine A_skip ?_ | refine A_block ?_ | (show opsA _ _ _ _ _ _ _; first | refine O_ev WideF.wide rfl (Ev_pure rfl) rfl rfl ?_ | (show opsA _ _ _ _ (⟨_, .load _ _, _, _, _, _⟩ :: _) _ _; refine O_ev WideF.wide rfl (Ev_loadB1 (i := 0) rfl rfl rfl) rfl rfl ?_) | (show opsA _ _ _ _ (⟨_, .indexAddr _ _ _, _, _, _, _⟩ :: _) _ _; refine O_ev WideF.wide rfl (Ev_indexAddr rfl rfl (by omega) (by omega)) rfl rfl ?_) | (show opsA _ _ _ _ (⟨_, .fieldAddr _ _ _, _, _, _, _⟩ :: _) _ _; refine O_ev WideF.wide rfl (Ev_fieldAddr rfl rfl rfl) rfl rfl ?_) | (show opsA _ _ _ _ (⟨_, .binOp _ _ _ _ _, _, _, _, _⟩ :: _) _ _; refine O_ev WideF.wide rfl (Ev_add rfl rfl (wi64 (by omega))) rfl rfl ?_) | (show opsA _ _ _ _ (⟨_, .alloc _, _, _, _, _⟩ :: _) _ _; (refine O_ef rfl (Ef_alloc WideF.wide rfl ?_); intro b)) | (show opsA _ _ _ _ (⟨_, .store _ _ _, _, _, _, _⟩ :: _) _ _; refine O_ef rfl (Ef_storew WideF.wide rfl rfl rfl rfl rfl ?_))) | (show wpA _ _ _ (.cond _ _ _) _ _ _ _; (refine A_if rfl (fun h => ?_) (fun h => ?_) <;> try (exfalso; omega))))
    all_goals first
      | (exfalso; omega)
      | (exfalso; contradiction)
      | (exfalso; exact absurd trivial (by assumption))
      | (exfalso; exact absurd rfl (by assumption))
      | exact Shift.to ⟨_, by omega, i + 1, _, _, rfl, by omega, rfl, rfl⟩ ⟨rfl, rfl, rfl, ⟨rfl, rfl, rfl, rfl, rfl, trivial⟩, Own.subi [1] (by decide) rfl rfl⟩
      | exact Shift.to ⟨_, by omega, i + 1, _, _, rfl, by omega, rfl, rfl⟩ ⟨rfl, rfl, rfl, ⟨rfl, rfl, rfl, rfl, rfl, trivial⟩, Own.subi [0] (by decide) rfl rfl⟩
      | trace_state
  · obtain rfl : i = n := by omega
    rw [List.take_of_length_le (by omega)]
    repeat' (first | (refine O_ef rfl (Ef_call (I := []) WideF.wide (number_fn (n := _)) ⟨rfl, trivial⟩ rfl ?_); rintro v1 H1 I1 hle1 ⟨rfl, rfl⟩) | refine O_nil ?_ | refine A_seq ?_ | refine A_region ?_ | refine A_ret ?_ | (show opsA _ _ _ _ _ _ _; first | refine O_ev WideF.wide rfl (Ev_pure rfl) rfl rfl ?_ | (show opsA _ _ _ _ (⟨_, .store _ _ _, _, _, _, _⟩ :: _) _ _; refine O_ef rfl (Ef_storew WideF.wide rfl rfl rfl rfl rfl ?_))) | (show wpA _ _ _ (.exit _) _ _ _ _; refine A_exit rfl ?_) | (show wpA _ _ _ (.cond _ _ _) _ _ _ _; (refine A_if rfl (fun h => ?_) (fun h => ?_) <;> try (exfalso; omega))))
    all_goals first
      | (exfalso; omega)
      | (exfalso; contradiction)
      | (exfalso; exact absurd trivial (by assumption))
      | (exfalso; exact absurd rfl (by assumption))
      | exact End_e (RetC (i := 0) rfl rfl rfl rfl) ⟨rfl, rfl⟩
      | trace_state
set_option maxRecDepth 100000 in
set_option maxHeartbeats 4000000 in
theorem abs4_fn {H : Hp} {a : Option Addr} {n cp : Nat} {l : List Val} (hx : HRow H a n cp 3 (l.map vlrow)) (hn : n < 4611686018427387904) (h0 : 0 < n) :
    Fn Tryz.prog 119 [.slice a n cp] H [] fun v _ I => v = rV (numV (absI (v0 l).num)) ∧ I = [] := by
  obtain ⟨bb, oo, rfl, hf⟩ := row_first hx h0
  refine Fn_of _ _ Tryz.func119 rfl Tryz.ntmps119 rfl fun c => ?_
  repeat' (first | (refine A_drawM WideF.wide (.q 0 (.q 1 (.q 2 (.q 3 (.q 4 (.q 5 (.q 6 (.q 7 (.q 8 (.q 9 (.e 10 (.done [11])))))))))))) [11] (by decide +kernel) ?_) | (refine D_ev rfl (Ev_loadH1 rfl (hf 1 _ rfl)) rfl rfl ?_) | (refine D_ev rfl (Ev_neg rfl rfl) rfl rfl ?_) | (refine D_ev rfl (Ev_maxi rfl rfl) rfl rfl ?_) | (refine E_ef rfl (Ef_call (I := []) WideF.wide (number_fn (n := absI (v0 l).num)) ⟨rfl, trivial⟩ rfl ?_); rintro v1 H1 I1 hle1 ⟨rfl, rfl⟩; refine ⟨⟨hle1, rfl⟩, ?_⟩) | refine O_nil ?_ | refine A_seq ?_ | refine A_region ?_ | refine A_ret ?_ | (show drJ _ _ _ _ _ _ _ (.q _ _) _; refine D_q rfl ?_) | (show drJ _ _ _ _ _ _ _ (.e _ _) _; refine D_e rfl ?_) | (show drJ _ _ _ _ _ _ _ (.done _) _; refine D_done ?_; simp only [List.cons_append, List.nil_append]) | (show drQ _ _ _ _ _ _; first | refine D_ev rfl (Ev_pure rfl) rfl rfl ?_ | (show drQ _ _ _ ⟨_, .indexAddr _ _ _, _, _, _, _⟩ _ _; refine D_ev rfl (Ev_indexAddr rfl rfl (by omega) (by omega)) rfl rfl ?_) | (show drQ _ _ _ ⟨_, .fieldAddr _ _ _, _, _, _, _⟩ _ _; refine D_ev rfl (Ev_fieldAddr rfl rfl rfl) rfl rfl ?_)) | (show opsA _ _ _ _ _ _ _; first | (show opsA _ _ _ _ (⟨_, .alloc _, _, _, _, _⟩ :: _) _ _; (refine O_ef rfl (Ef_alloc WideF.wide rfl ?_); intro b)) | (show opsA _ _ _ _ (⟨_, .store _ _ _, _, _, _, _⟩ :: _) _ _; refine O_ef rfl (Ef_storew WideF.wide rfl rfl rfl rfl rfl ?_))))
  all_goals first
    | (exfalso; omega)
    | (exfalso; contradiction)
    | (exfalso; exact absurd trivial (by assumption))
    | (exfalso; exact absurd rfl (by assumption))
    | exact End_e (RetC (i := 0) rfl rfl rfl rfl) ⟨rfl, rfl⟩
    | trace_state
set_option maxRecDepth 100000 in
set_option maxHeartbeats 4000000 in
theorem len5_fn {H : Hp} {a : Option Addr} {n cp : Nat} {l : List Val} (hx : HRow H a n cp 3 (l.map vlrow)) (hn : n < 4611686018427387904) (h0 : 0 < n) (ht : (v0 l).text.length < 4611686018427387904) :
    Fn Tryz.prog 120 [.slice a n cp] H [] fun v _ I => v = rV (numV (count (v0 l).text)) ∧ I = [] := by
  obtain ⟨bb, oo, rfl, hf⟩ := row_first hx h0
  have kc := Count_fn H (v0 l).text ht
  refine Fn_of _ _ Tryz.func120 rfl Tryz.ntmps120 rfl fun c => ?_
  repeat' (first | (refine O_ev WideF.wide rfl (Ev_loadH1 rfl (hf 2 _ rfl)) rfl rfl ?_) | (refine O_ef rfl (Ef_callp WideF.wide (kc) ⟨rfl, trivial⟩ rfl ?_)) | (refine O_ef rfl (Ef_call (I := []) WideF.wide (number_fn (n := _)) ⟨rfl, trivial⟩ rfl ?_); rintro v1 H1 I1 hle1 ⟨rfl, rfl⟩) | refine O_nil ?_ | refine A_seq ?_ | refine A_region ?_ | refine A_ret ?_ | (show opsA _ _ _ _ _ _ _; first | refine O_ev WideF.wide rfl (Ev_pure rfl) rfl rfl ?_ | (show opsA _ _ _ _ (⟨_, .indexAddr _ _ _, _, _, _, _⟩ :: _) _ _; refine O_ev WideF.wide rfl (Ev_indexAddr rfl rfl (by omega) (by omega)) rfl rfl ?_) | (show opsA _ _ _ _ (⟨_, .fieldAddr _ _ _, _, _, _, _⟩ :: _) _ _; refine O_ev WideF.wide rfl (Ev_fieldAddr rfl rfl rfl) rfl rfl ?_) | (show opsA _ _ _ _ (⟨_, .alloc _, _, _, _, _⟩ :: _) _ _; (refine O_ef rfl (Ef_alloc WideF.wide rfl ?_); intro b)) | (show opsA _ _ _ _ (⟨_, .store _ _ _, _, _, _, _⟩ :: _) _ _; refine O_ef rfl (Ef_storew WideF.wide rfl rfl rfl rfl rfl ?_))))
  all_goals first
    | (exfalso; omega)
    | (exfalso; contradiction)
    | (exfalso; exact absurd trivial (by assumption))
    | (exfalso; exact absurd rfl (by assumption))
    | exact End_e (RetC (i := 0) rfl rfl rfl rfl) ⟨rfl, rfl⟩
    | trace_state
set_option maxRecDepth 100000 in
set_option maxHeartbeats 4000000 in
theorem text6_fn {H : Hp} {a : Option Addr} {n cp : Nat} {l : List Val} (hx : HRow H a n cp 3 (l.map vlrow)) (hn : n < 4611686018427387904) (h0 : 0 < n) (hi : I64 (v0 l).num) (ht : (shwV (v0 l)).length < 4611686018427387904) :
    Fn Tryz.prog 122 [.slice a n cp] H [] fun v _ I => v = rVE (chkV (txtV (shwV (v0 l)))) ∧ I = [] := by
  obtain ⟨bb, oo, rfl, hf⟩ := row_first hx h0
  have ks := Show_fn (H := H) (x := v0 l) hi
  refine Fn_of _ _ Tryz.func122 rfl Tryz.ntmps122 rfl fun c => ?_
  repeat' (first | (refine O_ev WideF.wide rfl (Ev_loadH rfl hf rfl) rfl rfl ?_) | (refine O_ef rfl (Ef_callp WideF.wide (ks) ⟨rfl, trivial⟩ rfl ?_)) | (refine O_ef rfl (Ef_call (I := []) WideF.wide (text_fn (s := _)) ⟨rfl, trivial⟩ rfl ?_); rintro v1 H1 I1 hle1 ⟨rfl, rfl⟩) | (refine O_ef rfl (Ef_call (I := []) WideF.wide (checked_fn (x := txtV (shwV (v0 l))) (ht)) ⟨rfl, trivial⟩ rfl ?_); rintro v2 H2 I2 hle2 ⟨rfl, rfl⟩) | refine O_nil ?_ | refine A_seq ?_ | refine A_region ?_ | refine A_ret ?_ | (show opsA _ _ _ _ _ _ _; first | refine O_ev WideF.wide rfl (Ev_pure rfl) rfl rfl ?_ | (show opsA _ _ _ _ (⟨_, .indexAddr _ _ _, _, _, _, _⟩ :: _) _ _; refine O_ev WideF.wide rfl (Ev_indexAddr rfl rfl (by omega) (by omega)) rfl rfl ?_) | (show opsA _ _ _ _ (⟨_, .alloc _, _, _, _, _⟩ :: _) _ _; (refine O_ef rfl (Ef_alloc WideF.wide rfl ?_); intro b)) | (show opsA _ _ _ _ (⟨_, .store _ _ _, _, _, _, _⟩ :: _) _ _; refine O_ef rfl (Ef_storew WideF.wide rfl rfl rfl rfl rfl ?_))))
  all_goals first
    | (exfalso; omega)
    | (exfalso; contradiction)
    | (exfalso; exact absurd trivial (by assumption))
    | (exfalso; exact absurd rfl (by assumption))
    | exact End_e (RetC2 (i := 0) rfl rfl rfl rfl rfl) ⟨rfl, rfl⟩
    | trace_state
set_option maxRecDepth 100000 in
set_option maxHeartbeats 4000000 in
theorem toNumber_fn {H : Hp} {a : Option Addr} {n cp : Nat} {l : List Val} (hx : HRow H a n cp 3 (l.map vlrow)) (hn : n < 4611686018427387904) (h0 : 0 < n) (ht : (v0 l).text.length ≤ 1000000000) (hV : VarsH H) :
    Fn Tryz.prog 61 [.slice a n cp] H [] fun v _ I => v = rVE (toNum (v0 l)) ∧ I = [] := by
  obtain ⟨bb, oo, rfl, hf⟩ := row_first hx h0
  obtain ⟨⟨k, m, s⟩, hv⟩ : ∃ v, v = v0 l := ⟨_, rfl⟩
  rw [← hv] at hf ht ⊢
  dsimp only at hf ht
  have hle := trim_le s [45]
  obtain ⟨p, hp⟩ : ∃ p, p = Lib.trimPrefix s [45] := ⟨_, rfl⟩
  have kt := TrimPrefix_fn (H := H) (l := s) (p := [45])
  have e : toNum ⟨k, m, s⟩ = if k ≠ 2 then (zV, 3) else if (digR p).2 ≠ 0 then (zV, (digR p).2) else (numV (if p.length < s.length then w64 (0 - (digR p).1) else (digR p).1), 0) := by rw [hp]; rfl
  rw [← hp] at kt hle
  rw [e]
  have kd := digits_fn (H := H) (l := p) (by omega) hV
  by_cases h2 : k = 2
  · rw [if_neg (fun h => h h2)]
    by_cases hd : (digR p).2 = 0
    · rw [if_neg (fun h => h hd)]
      rw [hd] at kd
      by_cases hlt : p.length < s.length
      · rw [if_pos hlt]
        refine Fn_of _ _ Tryz.func61 rfl Tryz.ntmps61 rfl fun c => ?_
        repeat' (first | (refine O_ev WideF.wide rfl (Ev_loadH1 rfl (hf 0 _ rfl)) rfl rfl ?_) | (refine O_ev WideF.wide rfl (Ev_loadH1 rfl (hf 2 _ rfl)) rfl rfl ?_) | (refine O_ef rfl (Ef_callp WideF.wide (kt) ⟨rfl, rfl, trivial⟩ rfl ?_)) | (refine O_ef rfl (Ef_callp WideF.wide (kd) ⟨rfl, trivial⟩ rfl ?_)) | (refine O_ev WideF.wide rfl (Ev_neg rfl rfl) rfl rfl ?_) | (refine O_ef rfl (Ef_call (I := []) WideF.wide (number_fn (n := _)) ⟨rfl, trivial⟩ rfl ?_); rintro v1 H1 I1 hle1 ⟨rfl, rfl⟩) | refine O_nil ?_ | refine A_seq ?_ | refine A_region ?_ | refine A_skip ?_ | refine A_ret ?_ | (show opsA _ _ _ _ _ _ _; first | refine O_ev WideF.wide rfl (Ev_pure rfl) rfl rfl ?_ | (show opsA _ _ _ _ (⟨_, .indexAddr _ _ _, _, _, _, _⟩ :: _) _ _; refine O_ev WideF.wide rfl (Ev_indexAddr rfl rfl (by omega) (by omega)) rfl rfl ?_) | (show opsA _ _ _ _ (⟨_, .fieldAddr _ _ _, _, _, _, _⟩ :: _) _ _; refine O_ev WideF.wide rfl (Ev_fieldAddr rfl rfl rfl) rfl rfl ?_) | (show opsA _ _ _ _ (⟨_, .call _, _, _, _, _⟩ :: _) _ _; refine O_ev WideF.wide rfl (Ev_slen rfl) rfl rfl ?_) | (show opsA _ _ _ _ (⟨_, .alloc _, _, _, _, _⟩ :: _) _ _; (refine O_ef rfl (Ef_alloc WideF.wide rfl ?_); intro b)) | (show opsA _ _ _ _ (⟨_, .store _ _ _, _, _, _, _⟩ :: _) _ _; refine O_ef rfl (Ef_storew WideF.wide rfl rfl rfl rfl rfl ?_))) | (show wpA _ _ _ (.cond _ _ _) _ _ _ _; (refine A_if rfl (fun h => ?_) (fun h => ?_) <;> try (exfalso; omega))))
        all_goals first
          | (exfalso; omega)
          | (exfalso; contradiction)
          | (exfalso; exact absurd trivial (by assumption))
          | (exfalso; exact absurd rfl (by assumption))
          | exact End_e (RetC2 (i := 0) rfl rfl rfl rfl rfl) ⟨rfl, rfl⟩
          | trace_state
      · rw [if_neg hlt]
        refine Fn_of _ _ Tryz.func61 rfl Tryz.ntmps61 rfl fun c => ?_
        repeat' (first | (refine O_ev WideF.wide rfl (Ev_loadH1 rfl (hf 0 _ rfl)) rfl rfl ?_) | (refine O_ev WideF.wide rfl (Ev_loadH1 rfl (hf 2 _ rfl)) rfl rfl ?_) | (refine O_ef rfl (Ef_callp WideF.wide (kt) ⟨rfl, rfl, trivial⟩ rfl ?_)) | (refine O_ef rfl (Ef_callp WideF.wide (kd) ⟨rfl, trivial⟩ rfl ?_)) | (refine O_ef rfl (Ef_call (I := []) WideF.wide (number_fn (n := _)) ⟨rfl, trivial⟩ rfl ?_); rintro v1 H1 I1 hle1 ⟨rfl, rfl⟩) | refine O_nil ?_ | refine A_seq ?_ | refine A_region ?_ | refine A_skip ?_ | refine A_ret ?_ | (show opsA _ _ _ _ _ _ _; first | refine O_ev WideF.wide rfl (Ev_pure rfl) rfl rfl ?_ | (show opsA _ _ _ _ (⟨_, .indexAddr _ _ _, _, _, _, _⟩ :: _) _ _; refine O_ev WideF.wide rfl (Ev_indexAddr rfl rfl (by omega) (by omega)) rfl rfl ?_) | (show opsA _ _ _ _ (⟨_, .fieldAddr _ _ _, _, _, _, _⟩ :: _) _ _; refine O_ev WideF.wide rfl (Ev_fieldAddr rfl rfl rfl) rfl rfl ?_) | (show opsA _ _ _ _ (⟨_, .call _, _, _, _, _⟩ :: _) _ _; refine O_ev WideF.wide rfl (Ev_slen rfl) rfl rfl ?_) | (show opsA _ _ _ _ (⟨_, .alloc _, _, _, _, _⟩ :: _) _ _; (refine O_ef rfl (Ef_alloc WideF.wide rfl ?_); intro b)) | (show opsA _ _ _ _ (⟨_, .store _ _ _, _, _, _, _⟩ :: _) _ _; refine O_ef rfl (Ef_storew WideF.wide rfl rfl rfl rfl rfl ?_))) | (show wpA _ _ _ (.cond _ _ _) _ _ _ _; (refine A_if rfl (fun h => ?_) (fun h => ?_) <;> try (exfalso; omega))))
        all_goals first
          | (exfalso; omega)
          | (exfalso; contradiction)
          | (exfalso; exact absurd trivial (by assumption))
          | (exfalso; exact absurd rfl (by assumption))
          | exact End_e (RetC2 (i := 0) rfl rfl rfl rfl rfl) ⟨rfl, rfl⟩
          | trace_state
    · rw [if_pos hd]
      refine Fn_of _ _ Tryz.func61 rfl Tryz.ntmps61 rfl fun c => ?_
      repeat' (first | (refine O_ev WideF.wide rfl (Ev_loadH1 rfl (hf 0 _ rfl)) rfl rfl ?_) | (refine O_ev WideF.wide rfl (Ev_loadH1 rfl (hf 2 _ rfl)) rfl rfl ?_) | (refine O_ef rfl (Ef_callp WideF.wide (kt) ⟨rfl, rfl, trivial⟩ rfl ?_)) | (refine O_ef rfl (Ef_callp WideF.wide (kd) ⟨rfl, trivial⟩ rfl ?_)) | refine O_nil ?_ | refine A_seq ?_ | refine A_region ?_ | refine A_skip ?_ | refine A_ret ?_ | (show opsA _ _ _ _ _ _ _; first | refine O_ev WideF.wide rfl (Ev_pure rfl) rfl rfl ?_ | (show opsA _ _ _ _ (⟨_, .indexAddr _ _ _, _, _, _, _⟩ :: _) _ _; refine O_ev WideF.wide rfl (Ev_indexAddr rfl rfl (by omega) (by omega)) rfl rfl ?_) | (show opsA _ _ _ _ (⟨_, .fieldAddr _ _ _, _, _, _, _⟩ :: _) _ _; refine O_ev WideF.wide rfl (Ev_fieldAddr rfl rfl rfl) rfl rfl ?_) | (show opsA _ _ _ _ (⟨_, .build _ _, _, _, _, _⟩ :: _) _ _; refine O_ev WideF.wide rfl (Ev_build (vs := []) trivial rfl) rfl rfl ?_) | (show opsA _ _ _ _ (⟨_, .alloc _, _, _, _, _⟩ :: _) _ _; (refine O_ef rfl (Ef_alloc WideF.wide rfl ?_); intro b)) | (show opsA _ _ _ _ (⟨_, .store _ _ _, _, _, _, _⟩ :: _) _ _; refine O_ef rfl (Ef_storew WideF.wide rfl rfl rfl rfl rfl ?_))) | (show wpA _ _ _ (.cond _ _ _) _ _ _ _; (refine A_if rfl (fun h => ?_) (fun h => ?_) <;> try (exfalso; omega))))
      all_goals first
        | (exfalso; omega)
        | (exfalso; contradiction)
        | (exfalso; exact absurd trivial (by assumption))
        | (exfalso; exact absurd rfl (by assumption))
        | exact End_e (RetC2 (i := 0) rfl rfl rfl rfl rfl) ⟨rfl, rfl⟩
        | trace_state
  · rw [if_pos h2]
    refine Fn_of _ _ Tryz.func61 rfl Tryz.ntmps61 rfl fun c => ?_
    repeat' (first | (refine O_ev WideF.wide rfl (Ev_loadH1 rfl (hf 0 _ rfl)) rfl rfl ?_) | refine O_nil ?_ | refine A_seq ?_ | refine A_region ?_ | refine A_ret ?_ | (show opsA _ _ _ _ _ _ _; first | refine O_ev WideF.wide rfl (Ev_pure rfl) rfl rfl ?_ | (show opsA _ _ _ _ (⟨_, .indexAddr _ _ _, _, _, _, _⟩ :: _) _ _; refine O_ev WideF.wide rfl (Ev_indexAddr rfl rfl (by omega) (by omega)) rfl rfl ?_) | (show opsA _ _ _ _ (⟨_, .fieldAddr _ _ _, _, _, _, _⟩ :: _) _ _; refine O_ev WideF.wide rfl (Ev_fieldAddr rfl rfl rfl) rfl rfl ?_) | (show opsA _ _ _ _ (⟨_, .build _ _, _, _, _, _⟩ :: _) _ _; refine O_ev WideF.wide rfl (Ev_build (vs := []) trivial rfl) rfl rfl ?_) | (show opsA _ _ _ _ (⟨_, .alloc _, _, _, _, _⟩ :: _) _ _; (refine O_ef rfl (Ef_alloc WideF.wide rfl ?_); intro b)) | (show opsA _ _ _ _ (⟨_, .store _ _ _, _, _, _, _⟩ :: _) _ _; refine O_ef rfl (Ef_storew WideF.wide rfl rfl rfl rfl rfl ?_))) | (show wpA _ _ _ (.cond _ _ _) _ _ _ _; (refine A_if rfl (fun h => ?_) (fun h => ?_) <;> try (exfalso; omega))))
    all_goals first
      | (exfalso; omega)
      | (exfalso; contradiction)
      | (exfalso; exact absurd trivial (by assumption))
      | (exfalso; exact absurd rfl (by assumption))
      | exact End_e (RetC2 (i := 0) rfl rfl rfl rfl rfl) ⟨rfl, rfl⟩
      | trace_state
theorem xor_nat : ∀ n : Nat, n < 256 → ixor .u8 (n : Int) 32 = (((UInt8.ofNat n ^^^ 32).toNat : Nat) : Int) := by decide +kernel
theorem xor_byte (c : UInt8) : ixor .u8 ((c.toNat : Nat) : Int) 32 = (((c ^^^ 32).toNat : Nat) : Int) := by
  have h := xor_nat c.toNat c.toNat_lt
  rwa [UInt8.ofNat_toNat] at h
/-- what has become of a string when the first i bytes are done -/
def cur (fr : Nat) (l : List UInt8) (i : Nat) : List UInt8 := (l.take i).map (flip fr) ++ l.drop i
theorem cur_len (fr : Nat) (l : List UInt8) (i : Nat) (h : i ≤ l.length) : (cur fr l i).length = l.length := by simp [cur]; omega
theorem cur_at (fr : Nat) (l : List UInt8) (i : Nat) (h : i < l.length) : bat (cur fr l i) i = bat l i := by
  have : (cur fr l i)[i]? = l[i]? := by
    unfold cur
    rw [List.getElem?_append_right (by simp; omega)]
    simp
    congr 1
    omega
  simp only [bat, List.getD, Int.toNat_natCast, this]
theorem cur_set (fr : Nat) (l : List UInt8) (i : Nat) (c : UInt8) (h : l[i]? = some c) : (cur fr l i).set i (flip fr c) = cur fr l (i + 1) := by
  obtain ⟨hi, hc⟩ := List.getElem?_eq_some_iff.1 h
  unfold cur
  have : i - (List.map (flip fr) (List.take i l)).length = 0 := by simp; omega
  have hd : (l.drop i).set 0 (flip fr c) = flip fr c :: l.drop (i + 1) := by rw [List.drop_eq_getElem_cons hi]; rfl
  rw [List.set_append_right _ _ (by simp; omega), take_getN h, List.map_append, this, hd]
  simp
theorem cur_same (fr : Nat) (l : List UInt8) (i : Nat) (c : UInt8) (h : l[i]? = some c) (hf : flip fr c = c) : cur fr l i = cur fr l (i + 1) := by
  obtain ⟨hi, hc⟩ := List.getElem?_eq_some_iff.1 h
  unfold cur
  rw [take_getN h, List.map_append, List.drop_eq_getElem_cons hi, hc]
  simp [hf]
set_option maxRecDepth 100000 in
set_option maxHeartbeats 4000000 in
theorem upper_fn {H : Hp} {a : Option Addr} {n cp b1 : Nat} {l : List Val} (hx : HRow H a n cp 3 (l.map vlrow)) (hn : n < 4611686018427387904) (h0 : 0 < n) (ht : (v0 l).text.length < 4611686018427387904) (hb1 : H b1 0 = some (.int .u8 97)) :
    Fn Tryz.prog 151 [.slice a n cp, .pointer (some ⟨b1, 0, none⟩)] H [] fun v _ I => v = rV (txtV ((v0 l).text.map (flip 97))) ∧ I = [] := by
  obtain ⟨bb, oo, rfl, hf⟩ := row_first hx h0
  obtain ⟨s, hs⟩ : ∃ s, s = (v0 l).text := ⟨_, rfl⟩
  rw [← hs] at hf ht ⊢
  refine Fn_of _ _ Tryz.func151 rfl Tryz.ntmps151 rfl fun c => ?_
  repeat' (first | (refine O_ev WideF.wide rfl (Ev_loadH1 rfl (hf 2 _ rfl)) rfl rfl ?_) | (refine O_ef rfl (Ef_strBytes WideF.wide rfl rfl ?_); intro b5 cq rest hrest) | refine O_nil ?_ | refine A_seq ?_ | refine A_region ?_ | refine A_block ?_ | (show opsA _ _ _ _ _ _ _; first | refine O_ev WideF.wide rfl (Ev_pure rfl) rfl rfl ?_ | (show opsA _ _ _ _ (⟨_, .indexAddr _ _ _, _, _, _, _⟩ :: _) _ _; refine O_ev WideF.wide rfl (Ev_indexAddr rfl rfl (by omega) (by omega)) rfl rfl ?_) | (show opsA _ _ _ _ (⟨_, .fieldAddr _ _ _, _, _, _, _⟩ :: _) _ _; refine O_ev WideF.wide rfl (Ev_fieldAddr rfl rfl rfl) rfl rfl ?_) | (show opsA _ _ _ _ (⟨_, .call _, _, _, _, _⟩ :: _) _ _; refine O_ev WideF.wide rfl (Ev_llen rfl) rfl rfl ?_) | (show opsA _ _ _ _ (⟨_, .alloc _, _, _, _, _⟩ :: _) _ _; (refine O_ef rfl (Ef_alloc WideF.wide rfl ?_); intro b))))
  all_goals try (exfalso; omega)
  refine A_loopu (fun q st => ∃ (i b3 : Nat) (cs : List Value), q = s.length - i ∧ i ≤ s.length ∧ cs.length = 3 ∧ st = ⟨37, [(1, .pointer (some ⟨b1, 0, none⟩)), (3, .pointer (some ⟨b3, 0, none⟩)), (4, .slice (some ⟨b5, 0, none⟩) s.length cq), (12, .slice (some ⟨b5, 0, none⟩) s.length cq), (13, .int .i64 s.length), (14, .int .i64 i)], H, [.obj b5 (sobj (cur 97 s i) rest 5), .box b3 cs], [], []⟩) ?_ ?_
  · exact Shift.to ⟨_, 0, _, _, rfl, by omega, rfl, rfl⟩ ⟨rfl, rfl, rfl, ⟨rfl, rfl, rfl, rfl, rfl, rfl, trivial⟩, Own.subi [0, 1] (by decide) rfl rfl⟩
  rintro q st ⟨i, b3, cs, rfl, hi, hcs, rfl⟩
  obtain ⟨z1, z2, z3, rfl⟩ : ∃ z1 z2 z3, cs = [z1, z2, z3] := by
    match cs, hcs with
    | [x, y, z], _ => exact ⟨x, y, z, rfl⟩
  have hcl := cur_len 97 s i hi
  by_cases hlt : i < s.length
  · obtain ⟨u, hu1, hu2, hu3⟩ := get_byte s i hlt
    have hat := cur_at 97 s i hlt
    have hset := cur_set 97 s i u hu1
    have hxo : ixor .u8 (bat s i) 32 = (((u ^^^ 32).toNat : Nat) : Int) := by rw [hu2]; exact xor_byte u
    have hb256 := bat_hi s i
    by_cases hr : 97 ≤ u.toNat ∧ u.toNat < 97 + 26
    · have hfl : flip 97 u = u ^^^ 32 := if_pos hr
      rw [hfl] at hset
      repeat' (first | (refine O_ev WideF.wide rfl (Ev_loadS (i := 0) rfl rfl (by omega)) rfl rfl ?_; rw [show bat (cur 97 s i) ((0 + Int.toNat (i : Int) * 1 : Nat) : Int) = bat s i by rw [← hat]; congr 1; simp]) | (refine O_ev WideF.wide rfl (Ev_loadH1 rfl hb1) rfl rfl ?_) | (refine O_ev WideF.wide rfl (Ev_add (r := 123) rfl rfl rfl) rfl rfl ?_) | (refine O_ef rfl (Ef_storeS (u := u ^^^ 32) WideF.wide rfl rfl hxo (by omega) ?_); rw [show (cur 97 s i).set (0 + Int.toNat (i : Int) * 1) (u ^^^ 32) = cur 97 s (i + 1) by rw [← hset]; congr 1; simp]) | refine O_nil ?_ | refine A_seq ?_ | refine A_region ?_ | refine A_skip ?_ | refine A_block ?_ | (show opsA _ _ _ _ _ _ _; first | (refine O_split rfl rfl (fun h => ?_) (fun h => ?_) <;> try (exfalso; omega)) | refine O_ev WideF.wide rfl (Ev_pure rfl) rfl rfl ?_ | (show opsA _ _ _ _ (⟨_, .indexAddr _ _ _, _, _, _, _⟩ :: _) _ _; refine O_ev WideF.wide rfl (Ev_indexAddr rfl rfl (by omega) (by omega)) rfl rfl ?_) | (show opsA _ _ _ _ (⟨_, .binOp _ _ _ _ _, _, _, _, _⟩ :: _) _ _; first | refine O_ev WideF.wide rfl (Ev_add rfl rfl (wi64 (by omega))) rfl rfl ?_ | refine O_ev WideF.wide rfl (Ev_xor rfl rfl) rfl rfl ?_)) | (show wpA _ _ _ (.cond _ _ _) _ _ _ _; (refine A_if rfl (fun h => ?_) (fun h => ?_) <;> try (exfalso; omega))))
      all_goals first
        | (exfalso; omega)
        | (exfalso; contradiction)
        | (exfalso; exact absurd trivial (by assumption))
        | (exfalso; exact absurd rfl (by assumption))
        | exact Shift.to ⟨_, by omega, i + 1, _, _, rfl, by omega, rfl, rfl⟩ ⟨rfl, rfl, rfl, ⟨rfl, rfl, rfl, rfl, rfl, rfl, trivial⟩, Own.subi [0, 1] (by decide) rfl rfl⟩
        | trace_state
    · have hsame := cur_same 97 s i u hu1 (if_neg hr)
      repeat' (first | (refine O_ev WideF.wide rfl (Ev_loadS (i := 0) rfl rfl (by omega)) rfl rfl ?_; rw [show bat (cur 97 s i) ((0 + Int.toNat (i : Int) * 1 : Nat) : Int) = bat s i by rw [← hat]; congr 1; simp]) | (refine O_ev WideF.wide rfl (Ev_loadH1 rfl hb1) rfl rfl ?_) | (refine O_ev WideF.wide rfl (Ev_add (r := 123) rfl rfl rfl) rfl rfl ?_) | refine O_nil ?_ | refine A_seq ?_ | refine A_region ?_ | refine A_skip ?_ | refine A_block ?_ | (show opsA _ _ _ _ _ _ _; first | (refine O_split rfl rfl (fun h => ?_) (fun h => ?_) <;> try (exfalso; omega)) | refine O_ev WideF.wide rfl (Ev_pure rfl) rfl rfl ?_ | (show opsA _ _ _ _ (⟨_, .indexAddr _ _ _, _, _, _, _⟩ :: _) _ _; refine O_ev WideF.wide rfl (Ev_indexAddr rfl rfl (by omega) (by omega)) rfl rfl ?_) | (show opsA _ _ _ _ (⟨_, .binOp _ _ _ _ _, _, _, _, _⟩ :: _) _ _; refine O_ev WideF.wide rfl (Ev_add rfl rfl (wi64 (by omega))) rfl rfl ?_) | refine O_skip WideF.wide rfl rfl rfl ?_) | (show wpA _ _ _ (.cond _ _ _) _ _ _ _; first | (refine A_if rfl (fun h => ?_) (fun h => ?_) <;> try (exfalso; omega)) | refine A_iffalse rfl ?_))
      all_goals try rw [hsame]
      all_goals first
        | (exfalso; omega)
        | (exfalso; contradiction)
        | (exfalso; exact absurd trivial (by assumption))
        | (exfalso; exact absurd rfl (by assumption))
        | exact Shift.to ⟨_, by omega, i + 1, _, _, rfl, by omega, rfl, rfl⟩ ⟨rfl, rfl, rfl, ⟨rfl, rfl, rfl, rfl, rfl, rfl, trivial⟩, Own.subi [0, 1] (by decide) rfl rfl⟩
        | trace_state
  · obtain rfl : i = s.length := by omega
    have hfin : cur 97 s s.length = s.map (flip 97) := by simp [cur]
    rw [hfin] at hcl ⊢
    repeat' (first | (refine O_ev WideF.wide rfl (Ev_convS (i := 0) rfl rfl hcl) rfl rfl ?_) | (refine O_ef rfl (Ef_call (I := []) WideF.wide (text_fn (s := _)) ⟨rfl, trivial⟩ rfl ?_); rintro v1 H1 I1 hle1 ⟨rfl, rfl⟩) | refine O_nil ?_ | refine A_seq ?_ | refine A_region ?_ | refine A_ret ?_ | (show opsA _ _ _ _ _ _ _; first | refine O_ev WideF.wide rfl (Ev_pure rfl) rfl rfl ?_ | (show opsA _ _ _ _ (⟨_, .store _ _ _, _, _, _, _⟩ :: _) _ _; refine O_f1 (O_ef rfl (Ef_storew WideF.wide rfl rfl rfl rfl rfl ?_)))) | (show wpA _ _ _ (.exit _) _ _ _ _; refine A_exit rfl ?_) | (show wpA _ _ _ (.cond _ _ _) _ _ _ _; (refine A_if rfl (fun h => ?_) (fun h => ?_) <;> try (exfalso; omega))))
    all_goals first
      | (exfalso; omega)
      | (exfalso; contradiction)
      | (exfalso; exact absurd trivial (by assumption))
      | (exfalso; exact absurd rfl (by assumption))
      | exact End_e (RetC (i := 0) rfl rfl rfl rfl) ⟨rfl, rfl⟩
      | exact End_e (RetC (i := 1) rfl rfl rfl rfl) ⟨rfl, rfl⟩
      | trace_state
set_option maxRecDepth 100000 in
set_option maxHeartbeats 4000000 in
theorem lower_fn {H : Hp} {a : Option Addr} {n cp b1 : Nat} {l : List Val} (hx : HRow H a n cp 3 (l.map vlrow)) (hn : n < 4611686018427387904) (h0 : 0 < n) (ht : (v0 l).text.length < 4611686018427387904) (hb1 : H b1 0 = some (.int .u8 65)) :
    Fn Tryz.prog 151 [.slice a n cp, .pointer (some ⟨b1, 0, none⟩)] H [] fun v _ I => v = rV (txtV ((v0 l).text.map (flip 65))) ∧ I = [] := by
  obtain ⟨bb, oo, rfl, hf⟩ := row_first hx h0
  obtain ⟨s, hs⟩ : ∃ s, s = (v0 l).text := ⟨_, rfl⟩
  rw [← hs] at hf ht ⊢
  refine Fn_of _ _ Tryz.func151 rfl Tryz.ntmps151 rfl fun c => ?_
  repeat' (first | (refine O_ev WideF.wide rfl (Ev_loadH1 rfl (hf 2 _ rfl)) rfl rfl ?_) | (refine O_ef rfl (Ef_strBytes WideF.wide rfl rfl ?_); intro b5 cq rest hrest) | refine O_nil ?_ | refine A_seq ?_ | refine A_region ?_ | refine A_block ?_ | (show opsA _ _ _ _ _ _ _; first | refine O_ev WideF.wide rfl (Ev_pure rfl) rfl rfl ?_ | (show opsA _ _ _ _ (⟨_, .indexAddr _ _ _, _, _, _, _⟩ :: _) _ _; refine O_ev WideF.wide rfl (Ev_indexAddr rfl rfl (by omega) (by omega)) rfl rfl ?_) | (show opsA _ _ _ _ (⟨_, .fieldAddr _ _ _, _, _, _, _⟩ :: _) _ _; refine O_ev WideF.wide rfl (Ev_fieldAddr rfl rfl rfl) rfl rfl ?_) | (show opsA _ _ _ _ (⟨_, .call _, _, _, _, _⟩ :: _) _ _; refine O_ev WideF.wide rfl (Ev_llen rfl) rfl rfl ?_) | (show opsA _ _ _ _ (⟨_, .alloc _, _, _, _, _⟩ :: _) _ _; (refine O_ef rfl (Ef_alloc WideF.wide rfl ?_); intro b))))
  all_goals try (exfalso; omega)
  refine A_loopu (fun q st => ∃ (i b3 : Nat) (cs : List Value), q = s.length - i ∧ i ≤ s.length ∧ cs.length = 3 ∧ st = ⟨37, [(1, .pointer (some ⟨b1, 0, none⟩)), (3, .pointer (some ⟨b3, 0, none⟩)), (4, .slice (some ⟨b5, 0, none⟩) s.length cq), (12, .slice (some ⟨b5, 0, none⟩) s.length cq), (13, .int .i64 s.length), (14, .int .i64 i)], H, [.obj b5 (sobj (cur 65 s i) rest 5), .box b3 cs], [], []⟩) ?_ ?_
  · exact Shift.to ⟨_, 0, _, _, rfl, by omega, rfl, rfl⟩ ⟨rfl, rfl, rfl, ⟨rfl, rfl, rfl, rfl, rfl, rfl, trivial⟩, Own.subi [0, 1] (by decide) rfl rfl⟩
  rintro q st ⟨i, b3, cs, rfl, hi, hcs, rfl⟩
  obtain ⟨z1, z2, z3, rfl⟩ : ∃ z1 z2 z3, cs = [z1, z2, z3] := by
    match cs, hcs with
    | [x, y, z], _ => exact ⟨x, y, z, rfl⟩
  have hcl := cur_len 65 s i hi
  by_cases hlt : i < s.length
  · obtain ⟨u, hu1, hu2, hu3⟩ := get_byte s i hlt
    have hat := cur_at 65 s i hlt
    have hset := cur_set 65 s i u hu1
    have hxo : ixor .u8 (bat s i) 32 = (((u ^^^ 32).toNat : Nat) : Int) := by rw [hu2]; exact xor_byte u
    have hb256 := bat_hi s i
    by_cases hr : 65 ≤ u.toNat ∧ u.toNat < 65 + 26
    · have hfl : flip 65 u = u ^^^ 32 := if_pos hr
      rw [hfl] at hset
      repeat' (first | (refine O_ev WideF.wide rfl (Ev_loadS (i := 0) rfl rfl (by omega)) rfl rfl ?_; rw [show bat (cur 65 s i) ((0 + Int.toNat (i : Int) * 1 : Nat) : Int) = bat s i by rw [← hat]; congr 1; simp]) | (refine O_ev WideF.wide rfl (Ev_loadH1 rfl hb1) rfl rfl ?_) | (refine O_ev WideF.wide rfl (Ev_add (r := 91) rfl rfl rfl) rfl rfl ?_) | (refine O_ef rfl (Ef_storeS (u := u ^^^ 32) WideF.wide rfl rfl hxo (by omega) ?_); rw [show (cur 65 s i).set (0 + Int.toNat (i : Int) * 1) (u ^^^ 32) = cur 65 s (i + 1) by rw [← hset]; congr 1; simp]) | refine O_nil ?_ | refine A_seq ?_ | refine A_region ?_ | refine A_skip ?_ | refine A_block ?_ | (show opsA _ _ _ _ _ _ _; first | (refine O_split rfl rfl (fun h => ?_) (fun h => ?_) <;> try (exfalso; omega)) | refine O_ev WideF.wide rfl (Ev_pure rfl) rfl rfl ?_ | (show opsA _ _ _ _ (⟨_, .indexAddr _ _ _, _, _, _, _⟩ :: _) _ _; refine O_ev WideF.wide rfl (Ev_indexAddr rfl rfl (by omega) (by omega)) rfl rfl ?_) | (show opsA _ _ _ _ (⟨_, .binOp _ _ _ _ _, _, _, _, _⟩ :: _) _ _; first | refine O_ev WideF.wide rfl (Ev_add rfl rfl (wi64 (by omega))) rfl rfl ?_ | refine O_ev WideF.wide rfl (Ev_xor rfl rfl) rfl rfl ?_)) | (show wpA _ _ _ (.cond _ _ _) _ _ _ _; (refine A_if rfl (fun h => ?_) (fun h => ?_) <;> try (exfalso; omega))))
      all_goals first
        | (exfalso; omega)
        | (exfalso; contradiction)
        | (exfalso; exact absurd trivial (by assumption))
        | (exfalso; exact absurd rfl (by assumption))
        | exact Shift.to ⟨_, by omega, i + 1, _, _, rfl, by omega, rfl, rfl⟩ ⟨rfl, rfl, rfl, ⟨rfl, rfl, rfl, rfl, rfl, rfl, trivial⟩, Own.subi [0, 1] (by decide) rfl rfl⟩
        | trace_state
    · have hsame := cur_same 65 s i u hu1 (if_neg hr)
      repeat' (first | (refine O_ev WideF.wide rfl (Ev_loadS (i := 0) rfl rfl (by omega)) rfl rfl ?_; rw [show bat (cur 65 s i) ((0 + Int.toNat (i : Int) * 1 : Nat) : Int) = bat s i by rw [← hat]; congr 1; simp]) | (refine O_ev WideF.wide rfl (Ev_loadH1 rfl hb1) rfl rfl ?_) | (refine O_ev WideF.wide rfl (Ev_add (r := 91) rfl rfl rfl) rfl rfl ?_) | refine O_nil ?_ | refine A_seq ?_ | refine A_region ?_ | refine A_skip ?_ | refine A_block ?_ | (show opsA _ _ _ _ _ _ _; first | (refine O_split rfl rfl (fun h => ?_) (fun h => ?_) <;> try (exfalso; omega)) | refine O_ev WideF.wide rfl (Ev_pure rfl) rfl rfl ?_ | (show opsA _ _ _ _ (⟨_, .indexAddr _ _ _, _, _, _, _⟩ :: _) _ _; refine O_ev WideF.wide rfl (Ev_indexAddr rfl rfl (by omega) (by omega)) rfl rfl ?_) | (show opsA _ _ _ _ (⟨_, .binOp _ _ _ _ _, _, _, _, _⟩ :: _) _ _; refine O_ev WideF.wide rfl (Ev_add rfl rfl (wi64 (by omega))) rfl rfl ?_) | refine O_skip WideF.wide rfl rfl rfl ?_) | (show wpA _ _ _ (.cond _ _ _) _ _ _ _; first | (refine A_if rfl (fun h => ?_) (fun h => ?_) <;> try (exfalso; omega)) | refine A_iffalse rfl ?_))
      all_goals try rw [hsame]
      all_goals first
        | (exfalso; omega)
        | (exfalso; contradiction)
        | (exfalso; exact absurd trivial (by assumption))
        | (exfalso; exact absurd rfl (by assumption))
        | exact Shift.to ⟨_, by omega, i + 1, _, _, rfl, by omega, rfl, rfl⟩ ⟨rfl, rfl, rfl, ⟨rfl, rfl, rfl, rfl, rfl, rfl, trivial⟩, Own.subi [0, 1] (by decide) rfl rfl⟩
        | trace_state
  · obtain rfl : i = s.length := by omega
    have hfin : cur 65 s s.length = s.map (flip 65) := by simp [cur]
    rw [hfin] at hcl ⊢
    repeat' (first | (refine O_ev WideF.wide rfl (Ev_convS (i := 0) rfl rfl hcl) rfl rfl ?_) | (refine O_ef rfl (Ef_call (I := []) WideF.wide (text_fn (s := _)) ⟨rfl, trivial⟩ rfl ?_); rintro v1 H1 I1 hle1 ⟨rfl, rfl⟩) | refine O_nil ?_ | refine A_seq ?_ | refine A_region ?_ | refine A_ret ?_ | (show opsA _ _ _ _ _ _ _; first | refine O_ev WideF.wide rfl (Ev_pure rfl) rfl rfl ?_ | (show opsA _ _ _ _ (⟨_, .store _ _ _, _, _, _, _⟩ :: _) _ _; refine O_f1 (O_ef rfl (Ef_storew WideF.wide rfl rfl rfl rfl rfl ?_)))) | (show wpA _ _ _ (.exit _) _ _ _ _; refine A_exit rfl ?_) | (show wpA _ _ _ (.cond _ _ _) _ _ _ _; (refine A_if rfl (fun h => ?_) (fun h => ?_) <;> try (exfalso; omega))))
    all_goals first
      | (exfalso; omega)
      | (exfalso; contradiction)
      | (exfalso; exact absurd trivial (by assumption))
      | (exfalso; exact absurd rfl (by assumption))
      | exact End_e (RetC (i := 0) rfl rfl rfl rfl) ⟨rfl, rfl⟩
      | exact End_e (RetC (i := 1) rfl rfl rfl rfl) ⟨rfl, rfl⟩
      | trace_state
end Go.Proofs.YtnoadopmeoohmaaGreatDoor
