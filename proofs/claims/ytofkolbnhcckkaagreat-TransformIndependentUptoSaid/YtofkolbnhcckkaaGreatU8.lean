/-
  Lists of ids; ranges over one another; transform.moved. Printed by genU8.py.
-/
import Derived.Test.YtofkolbnhcckkaaGreatU7
namespace Go.Proofs.YtofkolbnhcckkaaGreat
open Go
set_option linter.unusedVariables false
set_option linter.unusedSimpArgs false
attribute [local irreducible] wpA opsA drJ drQ drE Ef Ev Shift Fn
/-! ### lists of numbers -/
set_option maxRecDepth 100000 in
theorem IndexJ_fn {H : Hp} {a : Option Addr} {n cp : Nat} {l : List Int} {x : Int} (hx : HRow H a n cp 1 (l.map irow)) (hm : n < 68719476736) :
    Fn Tryz.prog 57 [.slice a n cp, .int .i64 x] H [] fun v H' I => ((v = .int .i64 (-1) ∧ x ∉ l) ∨ ∃ i : Nat, v = .int .i64 i ∧ x ∈ l) ∧ H' = H ∧ I = [] := by
  have e1 : l.length = n := by have := hx.len; simpa using this
  refine Fn_of _ _ Tryz.func57 rfl Tryz.ntmps57 rfl fun c => ?_
  repeat' (first | refine O_nil ?_ | refine A_seq ?_ | refine A_region ?_ | refine A_block ?_ | (show opsA _ _ _ _ _ _ _; first | refine O_ev WideF.wide rfl (Ev_pure rfl) rfl rfl ?_ | (show opsA _ _ _ _ (⟨_, .call _, _, _, _, _⟩ :: _) _ _; refine O_ev WideF.wide rfl (Ev_llen rfl) rfl rfl ?_)))
  refine A_loopu (fun m s => ∃ i : Nat, m = n - i ∧ i ≤ n ∧ x ∉ l.take i ∧ s = ⟨19, [(0, .slice a n cp), (1, .int .i64 x), (7, .int .i64 n), (8, .int .i64 i)], H, [], [], []⟩) ?_ ?_
  · exact Shift.to ⟨_, 0, rfl, by omega, by simp, rfl⟩ ⟨rfl, rfl, rfl, ⟨rfl, rfl, rfl, rfl, trivial⟩, Own.sub_nil _⟩
  rintro m s ⟨i, rfl, hi, hno, rfl⟩
  by_cases hlt : i < n
  · obtain ⟨b, o, y, rfl, hyi, hc⟩ := hx.atm i hlt
    unfold irow at hc
    by_cases hxy : x = y
    · repeat' (first | (refine O_ev WideF.wide rfl (Ev_loadH1 rfl (hc 0 _ rfl)) rfl rfl ?_) | refine O_nil ?_ | refine A_seq ?_ | refine A_region ?_ | refine A_skip ?_ | refine A_ret ?_ | refine A_block ?_ | (show opsA _ _ _ _ _ _ _; first | refine O_ev WideF.wide rfl (Ev_pure rfl) rfl rfl ?_ | (show opsA _ _ _ _ (⟨_, .indexAddr _ _ _, _, _, _, _⟩ :: _) _ _; refine O_ev WideF.wide rfl (Ev_indexAddr rfl rfl (by omega) (by omega)) rfl rfl ?_)) | (show wpA _ _ _ (.cond _ _ _) _ _ _ _; (refine A_if rfl (fun h => ?_) (fun h => ?_) <;> try (exfalso; omega))))
      exact End_e (Ret1 rfl rfl) ⟨.inr ⟨i, rfl, hxy ▸ List.mem_of_getElem? hyi⟩, rfl, rfl⟩
    · repeat' (first | (refine O_ev WideF.wide rfl (Ev_loadH1 rfl (hc 0 _ rfl)) rfl rfl ?_) | refine O_nil ?_ | refine A_seq ?_ | refine A_region ?_ | refine A_skip ?_ | refine A_block ?_ | (show opsA _ _ _ _ _ _ _; first | refine O_ev WideF.wide rfl (Ev_pure rfl) rfl rfl ?_ | (show opsA _ _ _ _ (⟨_, .indexAddr _ _ _, _, _, _, _⟩ :: _) _ _; refine O_ev WideF.wide rfl (Ev_indexAddr rfl rfl (by omega) (by omega)) rfl rfl ?_) | (show opsA _ _ _ _ (⟨_, .binOp _ _ _ _ _, _, _, _, _⟩ :: _) _ _; refine O_ev WideF.wide rfl (Ev_add rfl rfl (wi64 (by omega))) rfl rfl ?_)) | (show wpA _ _ _ (.cond _ _ _) _ _ _ _; (refine A_if rfl (fun h => ?_) (fun h => ?_) <;> try (exfalso; omega))))
      refine Shift.to ⟨_, by omega, i + 1, rfl, by omega, ?_, rfl⟩ ⟨rfl, rfl, rfl, ⟨rfl, rfl, rfl, rfl, trivial⟩, Own.sub_nil _⟩
      rw [take_get hyi]; simp; exact ⟨hno, hxy⟩
  · obtain rfl : n = i := by omega
    rw [List.take_of_length_le (by omega)] at hno
    repeat' (first | refine O_nil ?_ | refine A_seq ?_ | refine A_region ?_ | refine A_ret ?_ | (show opsA _ _ _ _ _ _ _; refine O_ev WideF.wide rfl (Ev_pure rfl) rfl rfl ?_) | (show wpA _ _ _ (.exit _) _ _ _ _; refine A_exit rfl ?_) | (show wpA _ _ _ (.cond _ _ _) _ _ _ _; (refine A_if rfl (fun h => ?_) (fun h => ?_) <;> try (exfalso; omega))))
    exact End_e (Ret1 rfl rfl) ⟨.inl ⟨rfl, hno⟩, rfl, rfl⟩
set_option maxRecDepth 100000 in
theorem Contains_fn {H : Hp} {a : Option Addr} {n cp : Nat} {l S : List Int} {x : Int} (hx : HRow H a n cp 1 (l.map irow)) (hm : n < 68719476736) (hS : ∀ y, y ∈ l ↔ y ∈ S) :
    FnP Tryz.prog 26 [.slice a n cp, .int .i64 x] H (.bool (decide (x ∈ S))) := by
  have h1 := IndexJ_fn (x := x) hx hm
  refine Fn_of _ _ Tryz.func26 rfl Tryz.ntmps26 rfl fun c => ?_
  repeat' (first | (refine O_ef rfl (Ef_call (I := []) WideF.wide h1 ⟨rfl, rfl, trivial⟩ rfl ?_); rintro v H1 I1 hle1 ⟨⟨rfl, ha⟩ | ⟨i, rfl, ha⟩, rfl, rfl⟩) | refine O_nil ?_ | refine A_seq ?_ | refine A_region ?_ | refine A_ret ?_ | (show opsA _ _ _ _ _ _ _; refine O_ev WideF.wide rfl (Ev_pure rfl) rfl rfl ?_))
  · (refine End_p (Ret1 rfl rfl) ?_)
    rw [hS] at ha
    exact congrArg Value.bool ((decide_eq_false (by omega)).trans (decide_eq_false ha).symm)
  · (refine End_p (Ret1 rfl rfl) ?_)
    rw [hS] at ha
    exact congrArg Value.bool ((decide_eq_true (by omega)).trans (decide_eq_true ha).symm)
set_option maxRecDepth 100000 in
theorem common1_fn {H : Hp} {b : Nat} {a : Option Addr} {n cp : Nat} {l S : List Int} {x : Int} (hb : H b 0 = some (.slice a n cp)) (hx : HRow H a n cp 1 (l.map irow)) (hm : n < 68719476736) (hS : ∀ y, y ∈ l ↔ y ∈ S) :
    FnP Tryz.prog 63 [.int .i64 x, .pointer (some ⟨b, 0, none⟩)] H (.bool (decide (x ∈ S))) := by
  have h1 := Contains_fn (x := x) hx hm hS
  refine Fn_of _ _ Tryz.func63 rfl Tryz.ntmps63 rfl fun c => ?_
  repeat' (first | (refine O_ev WideF.wide rfl (Ev_loadH1 rfl hb) rfl rfl ?_) | (refine O_ef rfl (Ef_callp WideF.wide (h1) ⟨rfl, rfl, trivial⟩ rfl ?_)) | refine O_nil ?_ | refine A_seq ?_ | refine A_region ?_ | refine A_ret ?_ | (show opsA _ _ _ _ _ _ _; refine O_ev WideF.wide rfl (Ev_pure rfl) rfl rfl ?_))
  (refine End_p (Ret1 rfl rfl) ?_)
  rfl
set_option maxRecDepth 100000 in
theorem IndexFuncJ_fn {H : Hp} {b : Nat} {a a' : Option Addr} {n cp n' cp' : Nat} {l l' S : List Int} (hb : H b 0 = some (.slice a' n' cp')) (hx' : HRow H a' n' cp' 1 (l'.map irow)) (hm' : n' < 68719476736) (hS : ∀ y, y ∈ l' ↔ y ∈ S) (hx : HRow H a n cp 1 (l.map irow)) (hm : n < 68719476736) :
    Fn Tryz.prog 89 [.slice a n cp, .func (.func 63) #[] #[.pointer (some ⟨b, 0, none⟩)]] H [] fun v H' I => ((v = .int .i64 (-1) ∧ ¬ ∃ x ∈ l, x ∈ S) ∨ ∃ i : Nat, v = .int .i64 i ∧ ∃ x ∈ l, x ∈ S) ∧ H' = H ∧ I = [] := by
  have e1 : l.length = n := by have := hx.len; simpa using this
  refine Fn_of _ _ Tryz.func89 rfl Tryz.ntmps89 rfl fun c => ?_
  repeat' (first | refine O_nil ?_ | refine A_seq ?_ | refine A_region ?_ | refine A_block ?_ | (show opsA _ _ _ _ _ _ _; first | refine O_ev WideF.wide rfl (Ev_pure rfl) rfl rfl ?_ | (show opsA _ _ _ _ (⟨_, .call _, _, _, _, _⟩ :: _) _ _; refine O_ev WideF.wide rfl (Ev_llen rfl) rfl rfl ?_)))
  refine A_loopu (fun m s => ∃ i : Nat, m = n - i ∧ i ≤ n ∧ (¬ ∃ x ∈ l.take i, x ∈ S) ∧ s = ⟨19, [(0, .slice a n cp), (1, .func (.func 63) #[] #[.pointer (some ⟨b, 0, none⟩)]), (7, .int .i64 n), (8, .int .i64 i)], H, [], [], []⟩) ?_ ?_
  · exact Shift.to ⟨_, 0, rfl, by omega, by simp, rfl⟩ ⟨rfl, rfl, rfl, ⟨rfl, rfl, rfl, rfl, trivial⟩, Own.sub_nil _⟩
  rintro m s ⟨i, rfl, hi, hno, rfl⟩
  by_cases hlt : i < n
  · obtain ⟨b2, o, y, rfl, hyi, hc⟩ := hx.atm i hlt
    unfold irow at hc
    have h1 := common1_fn (x := y) hb hx' hm' hS
    by_cases hxy : y ∈ S
    · rw [decide_eq_true hxy] at h1
      repeat' (first | (refine O_ev WideF.wide rfl (Ev_loadH1 rfl (hc 0 _ rfl)) rfl rfl ?_) | (refine O_ef rfl (Ef_callcp (args := [_]) (caps := [_]) WideF.wide h1 rfl ⟨rfl, trivial⟩ rfl ?_)) | refine O_nil ?_ | refine A_seq ?_ | refine A_region ?_ | refine A_skip ?_ | refine A_ret ?_ | refine A_block ?_ | (show opsA _ _ _ _ _ _ _; first | refine O_ev WideF.wide rfl (Ev_pure rfl) rfl rfl ?_ | (show opsA _ _ _ _ (⟨_, .indexAddr _ _ _, _, _, _, _⟩ :: _) _ _; refine O_ev WideF.wide rfl (Ev_indexAddr rfl rfl (by omega) (by omega)) rfl rfl ?_)) | (show wpA _ _ _ (.cond _ _ _) _ _ _ _; first | (refine A_if rfl (fun h => ?_) (fun h => ?_) <;> try (exfalso; omega)) | refine A_iftrue rfl ?_))
      exact End_e (Ret1 rfl rfl) ⟨.inr ⟨i, rfl, y, List.mem_of_getElem? hyi, hxy⟩, rfl, rfl⟩
    · rw [decide_eq_false hxy] at h1
      repeat' (first | (refine O_ev WideF.wide rfl (Ev_loadH1 rfl (hc 0 _ rfl)) rfl rfl ?_) | (refine O_ef rfl (Ef_callcp (args := [_]) (caps := [_]) WideF.wide h1 rfl ⟨rfl, trivial⟩ rfl ?_)) | refine O_nil ?_ | refine A_seq ?_ | refine A_region ?_ | refine A_skip ?_ | refine A_block ?_ | (show opsA _ _ _ _ _ _ _; first | refine O_ev WideF.wide rfl (Ev_pure rfl) rfl rfl ?_ | (show opsA _ _ _ _ (⟨_, .indexAddr _ _ _, _, _, _, _⟩ :: _) _ _; refine O_ev WideF.wide rfl (Ev_indexAddr rfl rfl (by omega) (by omega)) rfl rfl ?_) | (show opsA _ _ _ _ (⟨_, .binOp _ _ _ _ _, _, _, _, _⟩ :: _) _ _; refine O_ev WideF.wide rfl (Ev_add rfl rfl (wi64 (by omega))) rfl rfl ?_)) | (show wpA _ _ _ (.cond _ _ _) _ _ _ _; first | (refine A_if rfl (fun h => ?_) (fun h => ?_) <;> try (exfalso; omega)) | refine A_iffalse rfl ?_))
      refine Shift.to ⟨_, by omega, i + 1, rfl, by omega, ?_, rfl⟩ ⟨rfl, rfl, rfl, ⟨rfl, rfl, rfl, rfl, trivial⟩, Own.sub_nil _⟩
      rw [take_get hyi]
      rintro ⟨x, hx, hxS⟩
      rcases List.mem_append.1 hx with hx | hx
      · exact hno ⟨x, hx, hxS⟩
      · rw [List.mem_singleton] at hx; subst hx; exact hxy hxS
  · obtain rfl : n = i := by omega
    rw [List.take_of_length_le (by omega)] at hno
    repeat' (first | refine O_nil ?_ | refine A_seq ?_ | refine A_region ?_ | refine A_ret ?_ | (show opsA _ _ _ _ _ _ _; refine O_ev WideF.wide rfl (Ev_pure rfl) rfl rfl ?_) | (show wpA _ _ _ (.exit _) _ _ _ _; refine A_exit rfl ?_) | (show wpA _ _ _ (.cond _ _ _) _ _ _ _; (refine A_if rfl (fun h => ?_) (fun h => ?_) <;> try (exfalso; omega))))
    exact End_e (Ret1 rfl rfl) ⟨.inl ⟨rfl, hno⟩, rfl, rfl⟩
def meet (a b : List Int) : Prop := ∃ x ∈ a, x ∈ b
noncomputable instance (a b : List Int) : Decidable (meet a b) := Classical.propDecidable _
set_option maxRecDepth 100000 in
theorem ContainsFuncJ_fn {H : Hp} {b : Nat} {a a' : Option Addr} {n cp n' cp' : Nat} {l l' S S' : List Int} (hb : H b 0 = some (.slice a' n' cp')) (hx' : HRow H a' n' cp' 1 (l'.map irow)) (hm' : n' < 68719476736) (hS : ∀ y, y ∈ l' ↔ y ∈ S) (hx : HRow H a n cp 1 (l.map irow)) (hm : n < 68719476736) (hS' : ∀ y, y ∈ l ↔ y ∈ S') :
    FnP Tryz.prog 62 [.slice a n cp, .func (.func 63) #[] #[.pointer (some ⟨b, 0, none⟩)]] H (.bool (decide (meet S' S))) := by
  have h1 := IndexFuncJ_fn hb hx' hm' hS hx hm
  have hq : (∃ x ∈ l, x ∈ S) ↔ meet S' S := ⟨fun ⟨x, h1, h2⟩ => ⟨x, (hS' x).1 h1, h2⟩, fun ⟨x, h1, h2⟩ => ⟨x, (hS' x).2 h1, h2⟩⟩
  rw [hq] at h1
  refine Fn_of _ _ Tryz.func62 rfl Tryz.ntmps62 rfl fun c => ?_
  repeat' (first | (refine O_ef rfl (Ef_call (I := []) WideF.wide h1 ⟨rfl, rfl, trivial⟩ rfl ?_); rintro v H1 I1 hle1 ⟨⟨rfl, ha⟩ | ⟨i, rfl, ha⟩, rfl, rfl⟩) | refine O_nil ?_ | refine A_seq ?_ | refine A_region ?_ | refine A_ret ?_ | (show opsA _ _ _ _ _ _ _; refine O_ev WideF.wide rfl (Ev_pure rfl) rfl rfl ?_))
  · (refine End_p (Ret1 rfl rfl) ?_)
    exact congrArg Value.bool ((decide_eq_false (by omega)).trans (decide_eq_false ha).symm)
  · (refine End_p (Ret1 rfl rfl) ?_)
    exact congrArg Value.bool ((decide_eq_true (by omega)).trans (decide_eq_true ha).symm)
set_option maxRecDepth 100000 in
theorem common_fn {H : Hp} {cs cs' : List Value} {p q : Piece} (hx : PieceH H cs p) (hx' : PieceH H cs' q) (hm : p.fine) (hm' : q.fine) : Fn Tryz.prog 28 [.agg cs.toArray, .agg cs'.toArray] H [] fun v _ I => v = .bool (decide (meet (idsP p) (idsP q))) ∧ I = [] := by
  have h1 := fun Hx (h : HLe H Hx) => Ids_fn (hx'.mono h) hm'
  have h2 := fun Hx (h : HLe H Hx) => Ids_fn (hx.mono h) hm
  obtain ⟨o1, o2, o3, o4, o5, o6, o7, o8, o9, o10, o11, o12, rfl⟩ := list12 hx.one.1
  obtain ⟨u1, u2, u3, u4, u5, u6, u7, u8, u9, u10, u11, u12, rfl⟩ := list12 hx'.one.1
  have g := HLe.refl H
  refine Fn_of _ _ Tryz.func28 rfl Tryz.ntmps28 rfl fun c => ?_
  repeat' (first | (refine O_ef rfl (Ef_call (I := []) WideF.wide (h1 _ g) ⟨rfl, trivial⟩ rfl ?_); rintro v H1 I1 hle1 ⟨⟨a1, n1, c1, l1, rfl, r1, m1, s1⟩, rfl⟩) | (refine O_ef rfl (Ef_store1 WideF.wide rfl rfl rfl rfl rfl ?_); refine O_freezeBox (by intro u hu; rw [List.mem_singleton.1 hu]; rfl) ?_; intro H2 hle2 hb2) | (refine O_ef rfl (Ef_call (I := []) WideF.wide (h2 _ (hle1.trans hle2)) ⟨rfl, trivial⟩ rfl ?_); rintro v H3 I3 hle3 ⟨⟨a3, n3, c3, l3, rfl, r3, m3, s3⟩, rfl⟩) | (refine O_ev WideF.wide rfl (Ev_makeFunc (xs := []) (vs := []) (ys := [.tmp 5]) (us := [.pointer (some ⟨_, 0, none⟩)]) rfl rfl) rfl rfl ?_) | (refine O_ef rfl (Ef_callp WideF.wide (ContainsFuncJ_fn (hle3 _ _ _ (hb2 0 _ rfl)) ((r1.mono hle2).mono hle3) m1 s1 r3 m3 s3) ⟨rfl, rfl, trivial⟩ rfl ?_)) | refine O_nil ?_ | refine A_seq ?_ | refine A_region ?_ | refine A_ret ?_ | (show opsA _ _ _ _ _ _ _; first | refine O_ev WideF.wide rfl (Ev_pure rfl) rfl rfl ?_ | (show opsA _ _ _ _ (⟨_, .load _ _, _, _, _, _⟩ :: _) _ _; first | refine O_ev WideF.wide rfl (Ev_loadB (i := 0) rfl rfl rfl) rfl rfl ?_ | refine O_ev WideF.wide rfl (Ev_loadB (i := 1) rfl rfl rfl) rfl rfl ?_) | (show opsA _ _ _ _ (⟨_, .alloc _, _, _, _, _⟩ :: _) _ _; (refine O_ef rfl (Ef_alloc WideF.wide rfl ?_); intro b)) | (show opsA _ _ _ _ (⟨_, .box _ _, _, _, _, _⟩ :: _) _ _; (refine O_ef rfl (Ef_boxa WideF.wide rfl rfl ?_); intro b))))
  exact End_e (Ret1 rfl rfl) ⟨rfl, rfl⟩
/-! ### ranges -/
/-- an index over a range of n elements at a that becomes m elements -/
def rIdx (k a n m : Int) : Option Int := if k < a then some k else if a + n ≤ k then some (k - n + m) else none
/-- a range of c elements at b over another one -/
def rOver (b c a n m : Int) (first : Bool) : Option Int :=
  if c = 0 ∧ n = 0 ∧ b = a ∧ first = true then some b else if c = 0 ∧ n = 0 ∧ b = a then some (b + m) else if b + c ≤ a then some b else if a + n ≤ b then some (b - n + m) else none
def OptR (X : Option Int) (v : Value) : Prop := ∃ (y : Int) (b : Bool), v = .tuple [.int .i64 y, .bool b].toArray ∧ X = if b = true then some y else none
def rng (a b c : Int) : List Value := [.int .i64 a, .int .i64 b, .int .i64 c]
set_option maxRecDepth 100000 in
theorem rIndex_fn {H : Hp} {k a n m : Int} (hk : 0 ≤ k ∧ k ≤ 1099511627776) (ha : 0 ≤ a ∧ a ≤ 1099511627776) (hn : 0 ≤ n ∧ n ≤ 1099511627776) (hm : 0 ≤ m ∧ m ≤ 1099511627776) : Fn Tryz.prog 31 [.agg (rng a n m).toArray, .int .i64 k] H [] fun v H' I => OptR (rIdx k a n m) v ∧ H' = H ∧ I = [] := by
  unfold rng
  refine Fn_of _ _ Tryz.func31 rfl Tryz.ntmps31 rfl fun c => ?_
  repeat' (first | refine O_nil ?_ | refine A_seq ?_ | refine A_region ?_ | refine A_skip ?_ | refine A_ret ?_ | refine A_block ?_ | (show opsA _ _ _ _ _ _ _; first | refine O_ev WideF.wide rfl (Ev_pure rfl) rfl rfl ?_ | (show opsA _ _ _ _ (⟨_, .load _ _, _, _, _, _⟩ :: _) _ _; refine O_ev WideF.wide rfl (Ev_loadB1 (i := 0) rfl rfl rfl) rfl rfl ?_) | (show opsA _ _ _ _ (⟨_, .fieldAddr _ _ _, _, _, _, _⟩ :: _) _ _; refine O_ev WideF.wide rfl (Ev_fieldAddr rfl rfl rfl) rfl rfl ?_) | (show opsA _ _ _ _ (⟨_, .binOp _ _ _ _ _, _, _, _, _⟩ :: _) _ _; first | refine O_ev WideF.wide rfl (Ev_add rfl rfl (wi64 (by omega))) rfl rfl ?_ | refine O_ev WideF.wide rfl (Ev_sub rfl rfl (wi64 (by omega))) rfl rfl ?_) | (show opsA _ _ _ _ (⟨_, .box _ _, _, _, _, _⟩ :: _) _ _; (refine O_ef rfl (Ef_boxa WideF.wide rfl rfl ?_); intro b))) | (show wpA _ _ _ (.cond _ _ _) _ _ _ _; (refine A_if rfl (fun h => ?_) (fun h => ?_) <;> try (exfalso; omega))))
  all_goals first
    | (exfalso; omega)
    | (refine End_e (Ret2 rfl rfl rfl) ⟨⟨_, _, rfl, ?_⟩, rfl, rfl⟩; unfold rIdx; grind)
set_option maxRecDepth 100000 in
theorem rRemoves_fn {H : Hp} {k a n m : Int} (hk : 0 ≤ k ∧ k ≤ 1099511627776) (ha : 0 ≤ a ∧ a ≤ 1099511627776) (hn : 0 ≤ n ∧ n ≤ 1099511627776) (hm : 0 ≤ m ∧ m ≤ 1099511627776) : FnP Tryz.prog 32 [.agg (rng a n m).toArray, .int .i64 k] H (.bool (decide (rIdx k a n m = none))) := by
  have h1 := fun Hx => rIndex_fn (H := Hx) hk ha hn hm
  unfold rng at *
  refine Fn_of _ _ Tryz.func32 rfl Tryz.ntmps32 rfl fun c => ?_
  repeat' (first | (refine O_ef rfl (Ef_call (I := []) WideF.wide (h1 _) ⟨rfl, rfl, trivial⟩ rfl ?_); rintro v H1 I1 hle1 ⟨⟨y, b, rfl, hb⟩, rfl, rfl⟩) | refine O_nil ?_ | refine A_seq ?_ | refine A_region ?_ | refine A_ret ?_ | (show opsA _ _ _ _ _ _ _; first | refine O_ev WideF.wide rfl (Ev_pure rfl) rfl rfl ?_ | (show opsA _ _ _ _ (⟨_, .load _ _, _, _, _, _⟩ :: _) _ _; refine O_ev WideF.wide rfl (Ev_loadB (i := 0) rfl rfl rfl) rfl rfl ?_) | (show opsA _ _ _ _ (⟨_, .unOp _ _ _, _, _, _, _⟩ :: _) _ _; refine O_ev WideF.wide rfl (Ev_notb rfl) rfl rfl ?_) | (show opsA _ _ _ _ (⟨_, .box _ _, _, _, _, _⟩ :: _) _ _; (refine O_ef rfl (Ef_boxa WideF.wide rfl rfl ?_); intro b))))
  (refine End_p (Ret1 rfl rfl) ?_)
  rw [hb]
  cases b <;> simp
set_option maxRecDepth 100000 in
set_option maxHeartbeats 1000000 in
theorem rOver_fn {H : Hp} {b c k a n m : Int} {first : Bool} (hk : 0 ≤ b ∧ b ≤ 1099511627776) (hc : 0 ≤ c ∧ c ≤ 1099511627776) (ha : 0 ≤ a ∧ a ≤ 1099511627776) (hn : 0 ≤ n ∧ n ≤ 1099511627776) (hm : 0 ≤ m ∧ m ≤ 1099511627776) : Fn Tryz.prog 30 [.agg (rng b c k).toArray, .agg (rng a n m).toArray, .bool first] H [] fun v H' I => OptR (rOver b c a n m first) v ∧ H' = H ∧ I = [] := by
  unfold rng
  cases first
  all_goals
    refine Fn_of _ _ Tryz.func30 rfl Tryz.ntmps30 rfl fun c => ?_
    repeat' (first | refine O_nil ?_ | refine A_seq ?_ | refine A_region ?_ | refine A_skip ?_ | refine A_ret ?_ | refine A_block ?_ | (show opsA _ _ _ _ _ _ _; first | (refine O_split rfl rfl (fun h => ?_) (fun h => ?_) <;> try (exfalso; omega)) | refine O_ev WideF.wide rfl (Ev_pure rfl) rfl rfl ?_ | (show opsA _ _ _ _ (⟨_, .load _ _, _, _, _, _⟩ :: _) _ _; first | refine O_ev WideF.wide rfl (Ev_loadB1 (i := 0) rfl rfl rfl) rfl rfl ?_ | refine O_ev WideF.wide rfl (Ev_loadB1 (i := 1) rfl rfl rfl) rfl rfl ?_) | (show opsA _ _ _ _ (⟨_, .fieldAddr _ _ _, _, _, _, _⟩ :: _) _ _; refine O_ev WideF.wide rfl (Ev_fieldAddr rfl rfl rfl) rfl rfl ?_) | (show opsA _ _ _ _ (⟨_, .binOp _ _ _ _ _, _, _, _, _⟩ :: _) _ _; first | refine O_ev WideF.wide rfl (Ev_add rfl rfl (wi64 (by omega))) rfl rfl ?_ | refine O_ev WideF.wide rfl (Ev_sub rfl rfl (wi64 (by omega))) rfl rfl ?_) | (show opsA _ _ _ _ (⟨_, .box _ _, _, _, _, _⟩ :: _) _ _; (refine O_ef rfl (Ef_boxa WideF.wide rfl rfl ?_); intro b)) | refine O_skip WideF.wide rfl rfl rfl ?_) | (show wpA _ _ _ (.cond _ _ _) _ _ _ _; first | (refine A_if rfl (fun h => ?_) (fun h => ?_) <;> try (exfalso; omega)) | refine A_iftrue rfl ?_ | refine A_iffalse rfl ?_))
    all_goals first
      | (exfalso; omega)
      | (refine End_e (Ret2 rfl rfl rfl) ⟨⟨_, _, rfl, ?_⟩, rfl, rfl⟩; unfold rOver; grind)

end Go.Proofs.YtofkolbnhcckkaaGreat
