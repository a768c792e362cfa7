/-
  mark.Set.
-/
import Derived.Test.YthniohgeojenaaaM22
import Derived.Test.YthniohgeojenaaaM25
namespace Go.Proofs.Ythniohgeojenaaa
open Go
set_option linter.unusedVariables false
set_option linter.unusedSimpArgs false
theorem eq_mstate (s t : St) : ∀ w, (Op.equalIn 10000 94 (.agg (stc s).toArray) (.agg (stc t).toArray)).run Try.prog w = .ok (decide (s = t)) w := fun w => by
  have key : ∀ m : Nat, (Op.equalIn (m + 2) 94 (.agg (stc s).toArray) (.agg (stc t).toArray)).run Try.prog w = .ok (decide (s = t)) w := fun m => by
    have hf := fieldsOf_of Try.underlying94
    rw [run_equalIn_agg (P := Try.prog) w (m + 1) _ _ _ (by rw [hf]; exact Try.underlying94) Try.stoodInHeld94, hf]
    have h1 := fun x y : Int => run_equalIn_int (P := Try.prog) w m 3 .i64 .i64 x y Try.underlying3
    have h2 := fun x y : Bool => run_equalIn_bool' (P := Try.prog) w m 4 x y Try.underlying4
    obtain ⟨a, b⟩ := s
    obtain ⟨c, d⟩ := t
    simp [stc, Op.eqFields, part, Try.isAgg3, Try.isAgg4, h1, h2]
    by_cases e1 : a = c <;> by_cases e2 : b = d <;> simp [e1, e2]
  exact key 9998
theorem eq_lstate (s t : St) : ∀ w, (Op.equalIn 10000 45 (.agg (stc s).toArray) (.agg (stc t).toArray)).run Try.prog w = .ok (decide (s = t)) w := fun w => by
  have key : ∀ m : Nat, (Op.equalIn (m + 2) 45 (.agg (stc s).toArray) (.agg (stc t).toArray)).run Try.prog w = .ok (decide (s = t)) w := fun m => by
    have hf := fieldsOf_of Try.underlying45
    rw [run_equalIn_agg (P := Try.prog) w (m + 1) _ _ _ (by rw [hf]; exact Try.underlying45) Try.stoodInHeld45, hf]
    have h1 := fun x y : Int => run_equalIn_int (P := Try.prog) w m 3 .i64 .i64 x y Try.underlying3
    have h2 := fun x y : Bool => run_equalIn_bool' (P := Try.prog) w m 4 x y Try.underlying4
    obtain ⟨a, b⟩ := s
    obtain ⟨c, d⟩ := t
    simp [stc, Op.eqFields, part, Try.isAgg3, Try.isAgg4, h1, h2]
    by_cases e1 : a = c <;> by_cases e2 : b = d <;> simp [e1, e2]
  exact key 9998
/-- where the layers of a key end -/
theorem end_is {A g C : List Layr} {k : Int} {e : Nat} (h1 : ∀ y ∈ A, y.key < k) (h2 : ∀ y ∈ g, y.key = k) (h3 : ∀ y ∈ C, k < y.key) (hl : e ≤ (A ++ g ++ C).length) (hall : ∀ j y, j < e → (A ++ g ++ C)[j]? = some y → y.key ≤ k) (hend : ∀ y, (A ++ g ++ C)[e]? = some y → k < y.key) : e = A.length + g.length := by
  rcases Nat.lt_trichotomy e (A.length + g.length) with h | h | h
  · exfalso
    have hlt : e < (A ++ g).length := by rw [List.length_append]; exact h
    have hy : (A ++ g ++ C)[e]? = some (A ++ g)[e] := by rw [List.getElem?_append_left hlt, List.getElem?_eq_getElem hlt]
    have hk := hend _ hy
    rcases List.mem_append.1 (List.getElem_mem hlt) with hm | hm
    · have := h1 _ hm; omega
    · have := h2 _ hm; omega
  · exact h
  · exfalso
    have hlt : A.length + g.length < (A ++ g ++ C).length := by omega
    have hc : 0 < C.length := by simp only [List.length_append] at hlt; omega
    have hy : (A ++ g ++ C)[A.length + g.length]? = some C[0] := by
      rw [List.getElem?_append_right (by simp), List.length_append, Nat.sub_self, List.getElem?_eq_getElem hc]
    have := hall _ _ h hy
    have := h3 _ (List.getElem_mem hc)
    omega
theorem setG_keys {rev ins k : Int} {s p : St} {g : List Layr} (h : ∀ y ∈ g, y.key = k) : ∀ y ∈ setG rev ins k s p g, y.key = k := by
  intro y hy
  unfold setG at hy
  split at hy
  · exact h y hy
  · split at hy
    · split at hy
      · exact h y (List.dropLast_sublist g |>.subset hy)
      · exact h y hy
    · rcases List.mem_append.1 hy with hy | hy
      · exact h y hy
      · simp at hy; subst hy; rfl
theorem setG_ok {rev ins k : Int} {s p : St} {g : List Layr} (hp : p.ok) (h : ∀ y ∈ g, y.st.ok) : ∀ y ∈ setG rev ins k s p g, y.st.ok := by
  intro y hy
  unfold setG at hy
  split at hy
  · exact h y hy
  · split at hy
    · split at hy
      · exact h y (List.dropLast_sublist g |>.subset hy)
      · exact h y hy
    · rcases List.mem_append.1 hy with hy | hy
      · exact h y hy
      · simp at hy; subst hy; exact hp
theorem last_key {A g C : List Layr} {k : Int} {z : Layr} (h1 : ∀ y ∈ A, y.key < k) (h2 : ∀ y ∈ g, y.key = k) (h0 : 0 < A.length + g.length) (hz : (A ++ g ++ C)[A.length + g.length - 1]? = some z) : z.key = k ↔ g ≠ [] := by
  have hlt : A.length + g.length - 1 < (A ++ g).length := by rw [List.length_append]; omega
  rw [List.getElem?_append_left hlt] at hz
  by_cases hg : g = []
  · subst hg
    simp only [List.append_nil] at hz
    have := h1 z (List.mem_of_getElem? hz)
    simp; omega
  · have hl : 0 < g.length := List.length_pos_iff.2 hg
    rw [List.getElem?_append_right (by omega)] at hz
    have := h2 z (List.mem_of_getElem? hz)
    simp [this, hg]
def setS (pv : Int) (clear : Bool) : St := if clear then ⟨0, false⟩ else ⟨pv, true⟩
theorem setS_ok (pv : Int) (clear : Bool) : (setS pv clear).ok := by
  unfold setS St.ok; cases clear <;> simp
def SetIs (q : Head) (rev k : Int) (s : St) (v : Value) (H : Hp) (I : Own) : Prop := (∃ cs o e, v = .tuple [.agg cs.toArray, .int .i64 e].toArray ∧ HeadH H cs o ∧ SetSpec q rev k s o e) ∧ I = []
attribute [local irreducible] wpA opsA drJ drQ drE Ef Ev Shift Fn
set_option maxRecDepth 100000 in
theorem present_raw {H : Hp} {pa : Option Addr} {pn pc : Nat} {l : List Prp} {i m : Int} {da la : Option Addr} {dn dc ln lc : Nat} {k : Int} (h1 : HRow H pa pn pc 2 (l.map prow)) (hs : IncP l) (hm : l.length < 34359738368) :
    FnP Try.prog 66 [.agg [.slice pa pn pc, .int .i64 i, .int .i64 m, .slice da dn dc, .slice la ln lc].toArray, .int .i64 k] H (stv (getP l k)) := by
  have l1 := h1.len
  simp only [List.length_map] at l1
  have hg := Get_fn (k := k) h1 hs (by omega)
  refine Fn_of _ _ Try.func66 rfl Try.ntmps66 rfl fun c => ?_
  repeat' (first | (refine O_ef rfl (Ef_callp WideF.wide hg ⟨rfl, rfl, trivial⟩ rfl ?_)) | refine O_nil ?_ | refine A_seq ?_ | refine A_region ?_ | refine A_ret ?_ | (show opsA _ _ _ _ _ _ _; first | refine O_ev WideF.wide rfl (Ev_pure rfl) rfl rfl ?_ | (show opsA _ _ _ _ (⟨_, .load _ _, _, _, _, _⟩ :: _) _ _; refine O_ev WideF.wide rfl (Ev_loadB1 (i := 1) rfl rfl rfl) rfl rfl ?_) | (show opsA _ _ _ _ (⟨_, .fieldAddr _ _ _, _, _, _, _⟩ :: _) _ _; refine O_ev WideF.wide rfl (Ev_fieldAddr rfl rfl rfl) rfl rfl ?_) | (show opsA _ _ _ _ (⟨_, .build _ _, _, _, _, _⟩ :: _) _ _; refine O_ev WideF.wide rfl (Ev_build (vs := [(_, _), (_, _)]) ⟨rfl, rfl, rfl, rfl, trivial⟩ rfl) rfl rfl ?_) | (show opsA _ _ _ _ (⟨_, .alloc _, _, _, _, _⟩ :: _) _ _; (refine O_ef rfl (Ef_alloc WideF.wide rfl ?_); intro b)) | (show opsA _ _ _ _ (⟨_, .box _ _, _, _, _, _⟩ :: _) _ _; (refine O_ef rfl (Ef_boxa WideF.wide rfl rfl ?_); intro b)) | (show opsA _ _ _ _ (⟨_, .store _ _ _, _, _, _, _⟩ :: _) _ _; refine O_ef rfl (Ef_storew WideF.wide rfl rfl rfl rfl rfl ?_))))
  exact End_p (RetC rfl rfl (i := 0) rfl rfl) rfl
abbrev sEnv (rev : Int) (b4 b6 b8 b10 b11 : Nat) : Env := [(1, .int .i64 rev), (4, ptr b4), (6, ptr b6), (8, ptr b8), (9, .int .i64 0), (10, ptr b10), (11, ptr b11)]
abbrev sOwn (q : Head) (pa : Option Addr) (pn pc : Nat) (da : Option Addr) (dn dc : Nat) (la : Option Addr) (ln lc : Nat) (L : List (List Value)) (b4 b6 b8 b10 b11 : Nat) (pk pv : Int) (nx old : St) : Own :=
  [.row (.slice la ln lc) 4 L, .box b4 [.slice pa pn pc, .int .i64 q.ins, .int .i64 q.move, .slice da dn dc, .slice la ln lc], .box b6 [.int .i64 pk, .int .i64 pv], .box b8 zHead, .box b10 [.int .i64 nx.val, .bool nx.set], .box b11 [.int .i64 old.val, .bool old.set]]
set_option maxRecDepth 100000 in
set_option maxHeartbeats 8000000 in
theorem Set_fn {H : Hp} {hcs : List Value} {q : Head} {rev pk pv : Int} {clear : Bool} (hh : HeadH H hcs q) (hq : Good q) (hl : q.mass < 1073741824) :
    Fn Try.prog 31 [.agg hcs.toArray, .int .i64 rev, .agg (prow ⟨pk, pv⟩).toArray, .bool clear] H [] (SetIs q rev pk (setS pv clear)) := by
  obtain ⟨pa, pn, pc, da, dn, dc, la, ln, lc, rfl, h1, h2, h3⟩ := hh.ex
  have hc := CloneHead_own hh (by omega)
  have hm := hl
  unfold Head.mass at hm
  have hsok := setS_ok pv clear
  refine Fn_of _ _ Try.func31 rfl Try.ntmps31 rfl fun c => ?_
  refine A_seq ?_
  refine A_cutu (fun s => ∃ b4 b6 b8, s = ⟨137, [(1, .int .i64 rev), (3, .bool clear), (4, ptr b4), (6, ptr b6), (8, ptr b8), (9, .int .i64 0)], H, [.box b4 [.slice pa pn pc, .int .i64 q.ins, .int .i64 q.move, .slice da dn dc, .slice la ln lc], .box b6 [.int .i64 pk, .int .i64 pv], .box b8 zHead], [], []⟩) ?_ ?_
  · unfold prow
    repeat' (first | refine O_nil ?_ | refine A_region ?_ | (show opsA _ _ _ _ _ _ _; first | refine O_ev WideF.wide rfl (Ev_pure rfl) rfl rfl ?_ | (show opsA _ _ _ _ (⟨_, .alloc _, _, _, _, _⟩ :: _) _ _; (refine O_ef rfl (Ef_alloc WideF.wide rfl ?_); intro b)) | (show opsA _ _ _ _ (⟨_, .box _ _, _, _, _, _⟩ :: _) _ _; (refine O_ef rfl (Ef_boxa WideF.wide rfl rfl ?_); intro b))))
    exact Shift.to ⟨_, _, _, rfl⟩ ⟨rfl, rfl, rfl, ⟨rfl, rfl, rfl, rfl, rfl, rfl, trivial⟩, Own.subi [2, 1, 0] (by decide) rfl rfl⟩
  rintro s ⟨b4, b6, b8, rfl⟩
  refine A_seq ?_
  refine A_cutu (fun s => ∃ b10, s = ⟨137, [(1, .int .i64 rev), (3, .bool clear), (4, ptr b4), (6, ptr b6), (8, ptr b8), (9, .int .i64 0), (10, ptr b10)], H, [.box b4 [.slice pa pn pc, .int .i64 q.ins, .int .i64 q.move, .slice da dn dc, .slice la ln lc], .box b6 [.int .i64 pk, .int .i64 pv], .box b8 zHead, .box b10 [.int .i64 pv, .bool true]], [], []⟩) ?_ ?_
  · repeat' (first | refine O_nil ?_ | refine A_region ?_ | (show opsA _ _ _ _ _ _ _; first | (show opsA _ _ _ _ (⟨_, .load _ _, _, _, _, _⟩ :: _) _ _; refine O_ev WideF.wide rfl (Ev_loadB1 (i := 1) rfl rfl rfl) rfl rfl ?_) | (show opsA _ _ _ _ (⟨_, .fieldAddr _ _ _, _, _, _, _⟩ :: _) _ _; refine O_ev WideF.wide rfl (Ev_fieldAddr rfl rfl rfl) rfl rfl ?_) | (show opsA _ _ _ _ (⟨_, .build _ _, _, _, _, _⟩ :: _) _ _; refine O_ev WideF.wide rfl (Ev_build (vs := [(_, _), (_, _)]) ⟨rfl, rfl, rfl, rfl, trivial⟩ rfl) rfl rfl ?_) | (show opsA _ _ _ _ (⟨_, .alloc _, _, _, _, _⟩ :: _) _ _; (refine O_ef rfl (Ef_alloc WideF.wide rfl ?_); intro b)) | (show opsA _ _ _ _ (⟨_, .store _ _ _, _, _, _, _⟩ :: _) _ _; refine O_ef rfl (Ef_storew WideF.wide rfl rfl rfl rfl rfl ?_))))
    exact Shift.to ⟨_, rfl⟩ ⟨rfl, rfl, rfl, ⟨rfl, rfl, rfl, rfl, rfl, rfl, rfl, trivial⟩, Own.subi [1, 2, 3, 0] (by decide) rfl rfl⟩
  rintro s ⟨b10, rfl⟩
  refine A_seq ?_
  refine A_cutu (fun s => s = ⟨137, [(1, .int .i64 rev), (4, ptr b4), (6, ptr b6), (8, ptr b8), (9, .int .i64 0), (10, ptr b10)], H, [.box b4 [.slice pa pn pc, .int .i64 q.ins, .int .i64 q.move, .slice da dn dc, .slice la ln lc], .box b6 [.int .i64 pk, .int .i64 pv], .box b8 zHead, .box b10 (stc (setS pv clear))], [], []⟩) ?_ ?_
  · cases clear
    · repeat' (first | refine O_nil ?_ | refine A_seq ?_ | refine A_region ?_ | refine A_skip ?_ | (show opsA _ _ _ _ _ _ _; refine O_ev WideF.wide rfl (Ev_pure rfl) rfl rfl ?_) | (show wpA _ _ _ (.cond _ _ _) _ _ _ _; refine A_iffalse rfl ?_))
      exact Shift.to rfl ⟨rfl, rfl, rfl, ⟨rfl, rfl, rfl, rfl, rfl, rfl, trivial⟩, Own.subi [0, 1, 2, 3] (by decide) rfl rfl⟩
    · repeat' (first | refine O_nil ?_ | refine A_seq ?_ | refine A_region ?_ | (show opsA _ _ _ _ _ _ _; first | refine O_ev WideF.wide rfl (Ev_pure rfl) rfl rfl ?_ | (show opsA _ _ _ _ (⟨_, .build _ _, _, _, _, _⟩ :: _) _ _; refine O_ev WideF.wide rfl (Ev_build (vs := []) trivial rfl) rfl rfl ?_) | (show opsA _ _ _ _ (⟨_, .store _ _ _, _, _, _, _⟩ :: _) _ _; refine O_f3 (O_ef rfl (Ef_storew WideF.wide rfl rfl rfl rfl rfl ?_)))) | (show wpA _ _ _ (.cond _ _ _) _ _ _ _; refine A_iftrue rfl ?_))
      first | exact Shift.to rfl ⟨rfl, rfl, rfl, ⟨rfl, rfl, rfl, rfl, rfl, rfl, trivial⟩, Own.subi [1, 2, 3, 0] (by decide) rfl rfl⟩ | exact Shift.to rfl ⟨rfl, rfl, rfl, ⟨rfl, rfl, rfl, rfl, rfl, rfl, trivial⟩, Own.subi [0, 1, 2, 3] (by decide) rfl rfl⟩
  rintro s rfl
  generalize setS pv clear = nx at hsok ⊢
  refine A_seq ?_
  refine A_cutu (fun s => ∃ (H1 : Hp) (pa1 : Option Addr) (pn1 pc1 : Nat) (da1 : Option Addr) (dn1 dc1 : Nat) (la1 : Option Addr) (lc1 : Nat), HRow H1 pa1 pn1 pc1 2 (q.props.map prow) ∧ HRow H1 da1 dn1 dc1 2 (q.dels.map drow) ∧ q.layers.length ≤ lc1 ∧ (la1 = none → q.layers = [] ∧ lc1 = 0) ∧ (∀ ad, la1 = some ad → ∃ b, ad = ⟨b, 0, none⟩) ∧ s = ⟨137, [(1, .int .i64 rev), (4, ptr b4), (6, ptr b6), (8, ptr b8), (9, .int .i64 0), (10, ptr b10)], H1, [.row (.slice la1 q.layers.length lc1) 4 (q.layers.map lrow), .box b4 [.slice pa1 pn1 pc1, .int .i64 q.ins, .int .i64 q.move, .slice da1 dn1 dc1, .slice la1 q.layers.length lc1], .box b6 [.int .i64 pk, .int .i64 pv], .box b8 zHead, .box b10 [.int .i64 nx.val, .bool nx.set]], [], []⟩) ?_ ?_
  · repeat' (first | (refine O_ef rfl (Ef_call (I := []) WideF.wide hc ⟨rfl, trivial⟩ rfl ?_); rintro v H1 I1 hle1 ⟨rfl, pa1, pn1, pc1, da1, dn1, dc1, la1, ln1, lc1, rfl, rfl⟩; refine O_freeze (prow_one _) ?_; intro H2 hle2 r1; refine O_freeze (drow_one _) ?_; intro H3 hle3 r2; refine O_rowaddr (q := 0) rfl ?_; intro d1 d2 d3 d4 d5; simp only [List.length_map] at d1 d2; subst d1) | refine O_nil ?_ | refine A_region ?_ | (show opsA _ _ _ _ _ _ _; first | (show opsA _ _ _ _ (⟨_, .load _ _, _, _, _, _⟩ :: _) _ _; refine O_ev WideF.wide rfl (Ev_loadB (i := 0) rfl rfl rfl) rfl rfl ?_) | (show opsA _ _ _ _ (⟨_, .store _ _ _, _, _, _, _⟩ :: _) _ _; refine O_f1 (O_ef rfl (Ef_storew WideF.wide rfl rfl rfl rfl rfl ?_)))))
    refine Shift.to ⟨_, _, _, _, _, _, _, _, _, r1.mono hle3, r2, d2, fun h => ?_, d5, rfl⟩ ⟨rfl, rfl, rfl, ⟨rfl, rfl, rfl, rfl, rfl, rfl, trivial⟩, Own.subi [1, 0, 2, 3, 4] (by decide) rfl rfl⟩
    have := d3 h
    exact ⟨by simpa using this.1, this.2⟩
  rintro s ⟨H1, pa1, pn1, pc1, da1, dn1, dc1, la1, lc1, r1, r2, d2, d3, d5, rfl⟩
  have hpr := fun i m da dn dc la ln lc => present_raw (i := i) (m := m) (da := da) (dn := dn) (dc := dc) (la := la) (ln := ln) (lc := lc) (k := pk) r1 hq.inc (by omega)
  have hold : ∃ old, old = getP q.props pk := ⟨_, rfl⟩
  obtain ⟨old, hold⟩ := hold
  rw [← hold] at hpr
  have eqk := eq_mstate old nx
  unfold stc at eqk
  refine A_seq ?_
  refine A_cutu (fun s => ∃ b11, s = ⟨137, sEnv rev b4 b6 b8 b10 b11, H1, sOwn q pa1 pn1 pc1 da1 dn1 dc1 la1 q.layers.length lc1 (q.layers.map lrow) b4 b6 b8 b10 b11 pk pv nx old, [], []⟩) ?_ ?_
  · repeat' (first | (refine O_ef rfl (Ef_callp WideF.wide (hpr _ _ _ _ _ _ _ _) ⟨rfl, rfl, trivial⟩ rfl ?_)) | refine O_nil ?_ | refine A_region ?_ | (show opsA _ _ _ _ _ _ _; first | (show opsA _ _ _ _ (⟨_, .load _ _, _, _, _, _⟩ :: _) _ _; first | refine O_ev WideF.wide rfl (Ev_loadB1 (i := 2) rfl rfl rfl) rfl rfl ?_ | refine O_ev WideF.wide rfl (Ev_loadB (i := 1) rfl rfl rfl) rfl rfl ?_) | (show opsA _ _ _ _ (⟨_, .fieldAddr _ _ _, _, _, _, _⟩ :: _) _ _; refine O_ev WideF.wide rfl (Ev_fieldAddr rfl rfl rfl) rfl rfl ?_) | (show opsA _ _ _ _ (⟨_, .alloc _, _, _, _, _⟩ :: _) _ _; (refine O_ef rfl (Ef_alloc WideF.wide rfl ?_); intro b)) | (show opsA _ _ _ _ (⟨_, .store _ _ _, _, _, _, _⟩ :: _) _ _; refine O_ef rfl (Ef_storew WideF.wide rfl rfl rfl rfl rfl ?_))))
    exact Shift.to ⟨_, rfl⟩ ⟨rfl, rfl, rfl, ⟨rfl, rfl, rfl, rfl, rfl, rfl, rfl, trivial⟩, Own.subi [1, 2, 3, 4, 5, 0] (by decide) rfl rfl⟩
  rintro s ⟨b11, rfl⟩
  refine A_seq (A_seq ?_)
  refine A_cutu (fun s => s = ⟨137, (27, .bool (decide (old = nx))) :: sEnv rev b4 b6 b8 b10 b11, H1, sOwn q pa1 pn1 pc1 da1 dn1 dc1 la1 q.layers.length lc1 (q.layers.map lrow) b4 b6 b8 b10 b11 pk pv nx old, [], []⟩) ?_ ?_
  · repeat' (first | (refine O_ev WideF.wide rfl (Ev_eqS rfl rfl Try.eqGuardType94 eqk) rfl rfl ?_) | refine O_nil ?_ | refine A_region ?_ | (show opsA _ _ _ _ _ _ _; (show opsA _ _ _ _ (⟨_, .load _ _, _, _, _, _⟩ :: _) _ _; first | refine O_ev WideF.wide rfl (Ev_loadB (i := 4) rfl rfl rfl) rfl rfl ?_ | refine O_ev WideF.wide rfl (Ev_loadB (i := 5) rfl rfl rfl) rfl rfl ?_)))
    exact Shift.to rfl ⟨rfl, rfl, rfl, ⟨rfl, rfl, rfl, rfl, rfl, rfl, rfl, rfl, trivial⟩, Own.subi [0, 1, 2, 3, 4, 5] (by decide) rfl rfl⟩
  rintro s rfl
  refine A_if rfl (fun hsame => ?_) (fun hsame => ?_)
  · repeat' (first | refine O_nil ?_ | refine A_seq ?_ | refine A_region ?_ | refine A_ret ?_ | (show opsA _ _ _ _ _ _ _; first | refine O_ev WideF.wide rfl (Ev_pure rfl) rfl rfl ?_ | (show opsA _ _ _ _ (⟨_, .load _ _, _, _, _, _⟩ :: _) _ _; refine O_ev WideF.wide rfl (Ev_loadB (i := 1) rfl rfl rfl) rfl rfl ?_) | (show opsA _ _ _ _ (⟨_, .store _ _ _, _, _, _, _⟩ :: _) _ _; refine O_f3 (O_ef rfl (Ef_storew WideF.wide rfl rfl rfl rfl rfl ?_)))))
    refine End_s (RetT2 rfl rfl (i := 0) rfl rfl rfl) ?_
    refine Shift.lek ⟨137, [], H1, [.row (.slice la1 q.layers.length lc1) 4 (q.layers.map lrow)], [], []⟩ ⟨rfl, rfl, rfl, trivial, Own.subi [1] (by decide) rfl rfl⟩ ?_
    exact Shift_freeze (lrow_one _) fun H' hle r3 => Shift.pure ⟨rfl, ⟨_, q, 0, rfl, ⟨⟨_, _, _, _, _, _, _, _, _, rfl, r1.mono hle, r2.mono hle, r3⟩⟩, by unfold SetSpec; rw [if_pos (hold ▸ hsame)]; exact ⟨rfl, rfl⟩⟩, rfl⟩
  refine A_skip ?_
  obtain ⟨A, C, hL, hA, hC, _, _, hAa, hCa⟩ := parts3 hq.asc pk
  have hgk := layersK_key (l := q.layers) (k := pk)
  have hgo : ∀ y ∈ layersK q.layers pk, y.st.ok := fun y hy => hq.ok y (layersK_mem.1 hy).1
  have hspec : ∀ o e, (setE q rev pk nx = true → o = Head.none ∧ e = 9) → (setE q rev pk nx = false → KeySpec q o pk nx (setG rev q.ins pk nx old (layersK q.layers pk)) ∧ e = 0) → SetSpec q rev pk nx o e := fun o e h1 h2 => by
    unfold SetSpec
    rw [if_neg (hold ▸ hsame)]
    cases hE : setE q rev pk nx with
    | true => rw [if_pos rfl]; exact h1 hE
    | false => rw [if_neg (by simp), ← hold]; exact h2 hE
  unfold setE at hspec
  rw [← hold, decide_eq_false hsame] at hspec
  have hk3 := fun g' (hk : ∀ y ∈ g', y.key = pk) (ho : ∀ y ∈ g', y.st.ok) => KeySpec.mk3 (g := g') hq hsok hk ho hL hAa hCa hA hC
  generalize layersK q.layers pk = g at *
  refine A_seq ?_
  refine A_cutu (fun s => s = ⟨137, (12, .int .i64 0) :: sEnv rev b4 b6 b8 b10 b11, H1, sOwn q pa1 pn1 pc1 da1 dn1 dc1 la1 q.layers.length lc1 (q.layers.map lrow) b4 b6 b8 b10 b11 pk pv nx old, [], []⟩) ?_ ?_
  · repeat' (first | refine O_nil ?_ | refine A_region ?_ | (show opsA _ _ _ _ _ _ _; refine O_ev WideF.wide rfl (Ev_pure rfl) rfl rfl ?_))
    exact Shift.to rfl ⟨rfl, rfl, rfl, ⟨rfl, rfl, rfl, rfl, rfl, rfl, rfl, rfl, trivial⟩, Own.subi [0, 1, 2, 3, 4, 5] (by decide) rfl rfl⟩
  rintro s rfl
  have hsome : ∀ i, i < q.layers.length → ∃ lb, la1 = some ⟨lb, 0, none⟩ := fun i hi => by
    cases la1 with
    | none => rw [(d3 rfl).1] at hi; simp at hi
    | some ad => obtain ⟨sb, rfl⟩ := d5 _ rfl; exact ⟨sb, rfl⟩
  refine A_seq ?_
  refine A_cutu (fun s => s = ⟨137, (12, .int .i64 ((A.length + g.length : Nat) : Int)) :: sEnv rev b4 b6 b8 b10 b11, H1, sOwn q pa1 pn1 pc1 da1 dn1 dc1 la1 q.layers.length lc1 (q.layers.map lrow) b4 b6 b8 b10 b11 pk pv nx old, [], []⟩) ?_ ?_
  · repeat' (first | refine A_block ?_)
    refine A_loopu (fun m s => ∃ e : Nat, m = q.layers.length - e ∧ e ≤ q.layers.length ∧ (∀ j y, j < e → q.layers[j]? = some y → y.key ≤ pk) ∧ s = ⟨137, (12, .int .i64 e) :: sEnv rev b4 b6 b8 b10 b11, H1, sOwn q pa1 pn1 pc1 da1 dn1 dc1 la1 q.layers.length lc1 (q.layers.map lrow) b4 b6 b8 b10 b11 pk pv nx old, [], []⟩) ?_ ?_
    · exact Shift.to ⟨_, 0, rfl, by omega, fun j y hj => absurd hj (by omega), rfl⟩ ⟨rfl, rfl, rfl, ⟨rfl, rfl, rfl, rfl, rfl, rfl, rfl, rfl, trivial⟩, Own.subi [0, 1, 2, 3, 4, 5] (by decide) rfl rfl⟩
    · rintro m s ⟨e, rfl, he, hall, rfl⟩
      by_cases hlt : e < q.layers.length
      · obtain ⟨lb, rfl⟩ := hsome e hlt
        obtain ⟨y, hye⟩ : ∃ y, q.layers[e]? = some y := ⟨_, List.getElem?_eq_getElem hlt⟩
        have hget : (q.layers.map lrow)[e]? = some (lrow y) := by rw [List.getElem?_map, hye]; rfl
        by_cases hyk : y.key ≤ pk
        · repeat' (first | refine A_seq ?_)
          (refine A_drawL WideF.wide (.q 0 (.q 1 (.q 2 (.q 3 (.q 4 (.q 5 (.q 6 (.q 7 (.q 8 (.q 9 (.q 10 (.q 11 (.q 12 (.q 13 (.q 14 (.q 15 (.q 16 (.q 17 (.done []))))))))))))))))))) [] (by decide +kernel) ?_)
          repeat' (first | (refine D_ev rfl (Ev_loadR1 (q := 0) (d := 1) rfl rfl hget (by simp) rfl) rfl rfl ?_) | refine O_nil ?_ | refine A_region ?_ | refine A_skip ?_ | refine A_block ?_ | (show drJ _ _ _ _ _ _ _ (.q _ _) _; refine D_q rfl ?_) | (show drJ _ _ _ _ _ _ _ (.done _) _; refine D_done ?_; simp only [List.cons_append, List.nil_append]) | (show drQ _ _ _ _ _ _; first | (refine D_split rfl rfl (fun h => ?_) (fun h => ?_) <;> try (exfalso; omega)) | refine D_ev rfl (Ev_pure rfl) rfl rfl ?_ | (show drQ _ _ _ ⟨_, .load _ _, _, _, _, _⟩ _ _; first | refine D_ev rfl (Ev_loadB1 (i := 1) rfl rfl rfl) rfl rfl ?_ | refine D_ev rfl (Ev_loadB1 (i := 2) rfl rfl rfl) rfl rfl ?_) | (show drQ _ _ _ ⟨_, .indexAddr _ _ _, _, _, _, _⟩ _ _; refine D_ev rfl (Ev_indexAddr rfl rfl (by omega) (by omega)) rfl rfl ?_) | (show drQ _ _ _ ⟨_, .fieldAddr _ _ _, _, _, _, _⟩ _ _; refine D_ev rfl (Ev_fieldAddr rfl rfl rfl) rfl rfl ?_) | (show drQ _ _ _ ⟨_, .call _, _, _, _, _⟩ _ _; refine D_ev rfl (Ev_llen rfl) rfl rfl ?_)) | (show opsA _ _ _ _ _ _ _; first | refine O_ev WideF.wide rfl (Ev_pure rfl) rfl rfl ?_ | (show opsA _ _ _ _ (⟨_, .binOp _ _ _ _ _, _, _, _, _⟩ :: _) _ _; refine O_ev WideF.wide rfl (Ev_add rfl rfl (wi64 (by omega))) rfl rfl ?_)) | (show wpA _ _ _ (.cond _ _ _) _ _ _ _; (refine A_if rfl (fun h => ?_) (fun h => ?_) <;> try (exfalso; omega))))
          refine Shift.to ⟨_, ?_, e + 1, rfl, by omega, fun j z hj hz => ?_, rfl⟩ ⟨rfl, rfl, rfl, ⟨rfl, rfl, rfl, rfl, rfl, rfl, rfl, rfl, trivial⟩, Own.subi [0, 1, 2, 3, 4, 5] (by decide) rfl rfl⟩
          · omega
          · by_cases hje : j = e
            · subst hje; rw [hye] at hz; cases hz; exact hyk
            · exact hall j z (by omega) hz
        · have hend : e = A.length + g.length := end_is hA hgk hC (hL ▸ he) (fun j z hj hz => hall j z hj (hL ▸ hz)) (fun z hz => by rw [← hL, hye] at hz; cases hz; omega)
          repeat' (first | refine A_seq ?_)
          (refine A_drawL WideF.wide (.q 0 (.q 1 (.q 2 (.q 3 (.q 4 (.q 5 (.q 6 (.q 7 (.q 8 (.q 9 (.q 10 (.q 11 (.q 12 (.q 13 (.q 14 (.q 15 (.q 16 (.q 17 (.done []))))))))))))))))))) [] (by decide +kernel) ?_)
          repeat' (first | (refine D_ev rfl (Ev_loadR1 (q := 0) (d := 1) rfl rfl hget (by simp) rfl) rfl rfl ?_) | refine O_nil ?_ | (show drJ _ _ _ _ _ _ _ (.q _ _) _; refine D_q rfl ?_) | (show drJ _ _ _ _ _ _ _ (.done _) _; refine D_done ?_; simp only [List.cons_append, List.nil_append]) | (show drQ _ _ _ _ _ _; first | (refine D_split rfl rfl (fun h => ?_) (fun h => ?_) <;> try (exfalso; omega)) | refine D_ev rfl (Ev_pure rfl) rfl rfl ?_ | (show drQ _ _ _ ⟨_, .load _ _, _, _, _, _⟩ _ _; first | refine D_ev rfl (Ev_loadB1 (i := 1) rfl rfl rfl) rfl rfl ?_ | refine D_ev rfl (Ev_loadB1 (i := 2) rfl rfl rfl) rfl rfl ?_) | (show drQ _ _ _ ⟨_, .indexAddr _ _ _, _, _, _, _⟩ _ _; refine D_ev rfl (Ev_indexAddr rfl rfl (by omega) (by omega)) rfl rfl ?_) | (show drQ _ _ _ ⟨_, .fieldAddr _ _ _, _, _, _, _⟩ _ _; refine D_ev rfl (Ev_fieldAddr rfl rfl rfl) rfl rfl ?_) | (show drQ _ _ _ ⟨_, .call _, _, _, _, _⟩ _ _; refine D_ev rfl (Ev_llen rfl) rfl rfl ?_)) | (show wpA _ _ _ (.exit _) _ _ _ _; refine A_exit rfl ?_) | (show wpA _ _ _ (.cond _ _ _) _ _ _ _; (refine A_if rfl (fun h => ?_) (fun h => ?_) <;> try (exfalso; omega))))
          rw [← hend]
          exact Shift.to rfl ⟨rfl, rfl, rfl, ⟨rfl, rfl, rfl, rfl, rfl, rfl, rfl, rfl, trivial⟩, Own.subi [0, 1, 2, 3, 4, 5] (by decide) rfl rfl⟩
      · have hin : q.layers.length = e := by omega
        have hend : e = A.length + g.length := end_is hA hgk hC (hL ▸ he) (fun j z hj hz => hall j z hj (hL ▸ hz)) (fun z hz => by rw [← hL, List.getElem?_eq_none (by omega)] at hz; cases hz)
        repeat' (first | refine A_seq ?_)
        (refine A_drawL WideF.wide (.q 0 (.q 1 (.q 2 (.q 3 (.q 4 (.q 5 (.q 6 (.q 7 (.q 8 (.q 9 (.q 10 (.q 11 (.q 12 (.q 13 (.q 14 (.q 15 (.q 16 (.q 17 (.done []))))))))))))))))))) [] (by decide +kernel) ?_)
        repeat' (first | refine O_nil ?_ | (show drJ _ _ _ _ _ _ _ (.q _ _) _; refine D_q rfl ?_) | (show drJ _ _ _ _ _ _ _ (.done _) _; refine D_done ?_; simp only [List.cons_append, List.nil_append]) | (show drQ _ _ _ _ _ _; first | (refine D_split rfl rfl (fun h => ?_) (fun h => ?_) <;> try (exfalso; omega)) | refine D_ev rfl (Ev_pure rfl) rfl rfl ?_ | (show drQ _ _ _ ⟨_, .load _ _, _, _, _, _⟩ _ _; refine D_ev rfl (Ev_loadB1 (i := 1) rfl rfl rfl) rfl rfl ?_) | (show drQ _ _ _ ⟨_, .fieldAddr _ _ _, _, _, _, _⟩ _ _; refine D_ev rfl (Ev_fieldAddr rfl rfl rfl) rfl rfl ?_) | (show drQ _ _ _ ⟨_, .call _, _, _, _, _⟩ _ _; refine D_ev rfl (Ev_llen rfl) rfl rfl ?_) | refine D_skip rfl rfl rfl ?_) | (show wpA _ _ _ (.exit _) _ _ _ _; refine A_exit rfl ?_) | (show wpA _ _ _ (.cond _ _ _) _ _ _ _; refine A_iffalse rfl ?_))
        rw [← hend]
        exact Shift.to rfl ⟨rfl, rfl, rfl, ⟨rfl, rfl, rfl, rfl, rfl, rfl, rfl, rfl, trivial⟩, Own.subi [0, 1, 2, 3, 4, 5] (by decide) rfl rfl⟩
  rintro s rfl
  have hlen : q.layers.length = A.length + g.length + C.length := by rw [hL]; simp; omega
  refine A_seq ?_
  refine A_cutu (fun s => ∃ hb : Bool, hb = decide (g ≠ []) ∧ s = ⟨137, (13, .bool hb) :: (12, .int .i64 ((A.length + g.length : Nat) : Int)) :: sEnv rev b4 b6 b8 b10 b11, H1, sOwn q pa1 pn1 pc1 da1 dn1 dc1 la1 q.layers.length lc1 (q.layers.map lrow) b4 b6 b8 b10 b11 pk pv nx old, [], []⟩) ?_ ?_
  · by_cases h0 : 0 < A.length + g.length
    · obtain ⟨lb, rfl⟩ := hsome (A.length + g.length - 1) (by omega)
      obtain ⟨z, hz⟩ : ∃ z, q.layers[A.length + g.length - 1]? = some z := ⟨_, List.getElem?_eq_getElem (by omega)⟩
      have hget : (q.layers.map lrow)[A.length + g.length - 1]? = some (lrow z) := by rw [List.getElem?_map, hz]; rfl
      have hzk := last_key hA hgk h0 (hL ▸ hz)
      (refine A_drawL WideF.wide (.q 0 (.q 1 (.q 2 (.q 3 (.q 4 (.q 5 (.q 6 (.q 7 (.q 8 (.q 9 (.q 10 (.q 11 (.q 12 (.q 13 (.q 14 (.q 15 (.done []))))))))))))))))) [] (by decide +kernel) ?_)
      repeat' (first | (refine D_ev rfl (Ev_loadR1 (q := 0) (d := 1) rfl rfl hget (by omega) rfl) rfl rfl ?_) | refine O_nil ?_ | (show drJ _ _ _ _ _ _ _ (.q _ _) _; refine D_q rfl ?_) | (show drJ _ _ _ _ _ _ _ (.done _) _; refine D_done ?_; simp only [List.cons_append, List.nil_append]) | (show drQ _ _ _ _ _ _; first | (refine D_split rfl rfl (fun h => ?_) (fun h => ?_) <;> try (exfalso; omega)) | refine D_ev rfl (Ev_pure rfl) rfl rfl ?_ | (show drQ _ _ _ ⟨_, .load _ _, _, _, _, _⟩ _ _; first | refine D_ev rfl (Ev_loadB1 (i := 1) rfl rfl rfl) rfl rfl ?_ | refine D_ev rfl (Ev_loadB1 (i := 2) rfl rfl rfl) rfl rfl ?_) | (show drQ _ _ _ ⟨_, .indexAddr _ _ _, _, _, _, _⟩ _ _; refine D_ev rfl (Ev_indexAddr rfl rfl (by omega) (by omega)) rfl rfl ?_) | (show drQ _ _ _ ⟨_, .fieldAddr _ _ _, _, _, _, _⟩ _ _; refine D_ev rfl (Ev_fieldAddr rfl rfl rfl) rfl rfl ?_) | (show drQ _ _ _ ⟨_, .binOp _ _ _ _ _, _, _, _, _⟩ _ _; refine D_ev rfl (Ev_sub rfl rfl (wi64 (by omega))) rfl rfl ?_)))
      exact Shift.to ⟨_, decide_eq_decide.2 hzk, rfl⟩ ⟨rfl, rfl, rfl, ⟨rfl, rfl, rfl, rfl, rfl, rfl, rfl, rfl, rfl, trivial⟩, Own.subi [0, 1, 2, 3, 4, 5] (by decide) rfl rfl⟩
    · have hg0 : g = [] := List.length_eq_zero_iff.1 (by omega)
      (refine A_drawL WideF.wide (.q 0 (.q 1 (.q 2 (.q 3 (.q 4 (.q 5 (.q 6 (.q 7 (.q 8 (.q 9 (.q 10 (.q 11 (.q 12 (.q 13 (.q 14 (.q 15 (.done []))))))))))))))))) [] (by decide +kernel) ?_)
      repeat' (first | refine O_nil ?_ | (show drJ _ _ _ _ _ _ _ (.q _ _) _; refine D_q rfl ?_) | (show drJ _ _ _ _ _ _ _ (.done _) _; refine D_done ?_; simp only [List.cons_append, List.nil_append]) | (show drQ _ _ _ _ _ _; first | (refine D_split rfl rfl (fun h => ?_) (fun h => ?_) <;> try (exfalso; omega)) | refine D_ev rfl (Ev_pure rfl) rfl rfl ?_ | refine D_skip rfl rfl rfl ?_))
      exact Shift.to ⟨_, (decide_eq_false (fun h => h hg0)).symm, rfl⟩ ⟨rfl, rfl, rfl, ⟨rfl, rfl, rfl, rfl, rfl, rfl, rfl, rfl, rfl, trivial⟩, Own.subi [0, 1, 2, 3, 4, 5] (by decide) rfl rfl⟩
  rintro s ⟨hb, hhb, rfl⟩
  have hgk' := setG_keys (rev := rev) (ins := q.ins) (s := nx) (p := old) hgk
  have hgo' := setG_ok (rev := rev) (ins := q.ins) (k := pk) (s := nx) (p := old) (by rw [hold]; exact getP_ok _ _) hgo
  refine A_seq ?_
  refine A_cutu (fun s => ∃ (la2 : Option Addr) (ln2 lc2 : Nat) (L' : List Layr), ((!decide (rev = 0 ∨ (q.ins = rev ∧ g = []))) && (!decide (g.getLast?.map Layr.rev = some rev)) && decide (64 ≤ q.layers.length)) = false ∧ L' = A ++ setG rev q.ins pk nx old g ++ C ∧ s = ⟨137, sEnv rev b4 b6 b8 b10 b11, H1, sOwn q pa1 pn1 pc1 da1 dn1 dc1 la2 ln2 lc2 (L'.map lrow) b4 b6 b8 b10 b11 pk pv nx old, [], []⟩) ?_ ?_
  · by_cases hC1 : rev = 0 ∨ (q.ins = rev ∧ g = [])
    · have hsG : setG rev q.ins pk nx old g = g := by unfold setG; rw [if_pos hC1]
      rw [hsG, ← hL]
      by_cases hg0 : g = []
      · rw [decide_eq_false (fun h => h hg0)] at hhb
        subst hhb
        repeat' (first | refine O_nil ?_ | refine A_seq ?_ | refine A_region ?_ | refine A_skip ?_ | refine A_block ?_ | (show opsA _ _ _ _ _ _ _; first | (refine O_split rfl rfl (fun h => ?_) (fun h => ?_) <;> try (exfalso; omega)) | refine O_ev WideF.wide rfl (Ev_pure rfl) rfl rfl ?_ | (show opsA _ _ _ _ (⟨_, .load _ _, _, _, _, _⟩ :: _) _ _; refine O_ev WideF.wide rfl (Ev_loadB1 (i := 1) rfl rfl rfl) rfl rfl ?_) | (show opsA _ _ _ _ (⟨_, .fieldAddr _ _ _, _, _, _, _⟩ :: _) _ _; refine O_ev WideF.wide rfl (Ev_fieldAddr rfl rfl rfl) rfl rfl ?_) | (show opsA _ _ _ _ (⟨_, .unOp _ _ _, _, _, _, _⟩ :: _) _ _; refine O_ev WideF.wide rfl (Ev_notb rfl) rfl rfl ?_) | refine O_skip WideF.wide rfl rfl rfl ?_) | (show wpA _ _ _ (.cond _ _ _) _ _ _ _; refine A_iftrue rfl ?_))
        all_goals first
          | (exfalso; omega)
          | exact Shift.to ⟨_, _, _, _, by simp [hC1], rfl, rfl⟩ ⟨rfl, rfl, rfl, ⟨rfl, rfl, rfl, rfl, rfl, rfl, rfl, trivial⟩, Own.subi [0, 1, 2, 3, 4, 5] (by decide) rfl rfl⟩
      · rw [decide_eq_true hg0] at hhb
        subst hhb
        have hr0 : rev = 0 := hC1.elim id fun h => absurd h.2 hg0
        repeat' (first | refine O_nil ?_ | refine A_seq ?_ | refine A_region ?_ | refine A_skip ?_ | refine A_block ?_ | (show opsA _ _ _ _ _ _ _; first | (refine O_split rfl rfl (fun h => ?_) (fun h => ?_) <;> try (exfalso; omega)) | refine O_ev WideF.wide rfl (Ev_pure rfl) rfl rfl ?_ | refine O_skip WideF.wide rfl rfl rfl ?_) | (show wpA _ _ _ (.cond _ _ _) _ _ _ _; refine A_iftrue rfl ?_))
        all_goals first
          | (exfalso; omega)
          | exact Shift.to ⟨_, _, _, _, by simp [hC1], rfl, rfl⟩ ⟨rfl, rfl, rfl, ⟨rfl, rfl, rfl, rfl, rfl, rfl, rfl, trivial⟩, Own.subi [0, 1, 2, 3, 4, 5] (by decide) rfl rfl⟩
    · obtain ⟨hr0, hins⟩ := not_or.1 hC1
      by_cases hlast : g.getLast?.map Layr.rev = some rev
      · obtain ⟨g0, y, rfl⟩ : ∃ g0 y, g = g0 ++ [y] := by
          cases hg0 : g.reverse with
          | nil => have : g = [] := by simpa using hg0
                   rw [this] at hlast; simp at hlast
          | cons z r => exact ⟨r.reverse, z, by have := congrArg List.reverse hg0; simpa using this⟩
        have hyr : y.rev = rev := by simpa using hlast
        rw [decide_eq_true (by simp)] at hhb
        subst hhb
        obtain ⟨n0, hn0⟩ : ∃ n0, n0 = A.length + g0.length := ⟨_, rfl⟩
        have he : A.length + (g0 ++ [y]).length = n0 + 1 := by rw [List.length_append, hn0]; simp; omega
        rw [he] at hlen
        rw [he]
        have hsub : IntKind.i64.wrap (((n0 + 1 : Nat) : Int) - 1) = (n0 : Int) := by rw [show ((n0 + 1 : Nat) : Int) - 1 = (n0 : Int) by omega]; exact wi64 (by omega)
        have hyn : q.layers[n0]? = some y := by
          rw [hL, show A ++ (g0 ++ [y]) ++ C = (A ++ g0) ++ y :: C by simp, List.getElem?_append_right (by simp [hn0])]
          simp [hn0]
        have hget : (q.layers.map lrow)[n0]? = some (lrow y) := by rw [List.getElem?_map, hyn]; rfl
        have hgy : (q.layers.map lrow)[n0]? = some [.int .i64 y.rev, .int .i64 y.key, .int .i64 y.before, .bool y.had] := hget
        have her : q.layers.eraseIdx n0 = A ++ g0 ++ C := by
          rw [hL, show A ++ (g0 ++ [y]) ++ C = (A ++ g0) ++ y :: C by simp, List.eraseIdx_append_of_length_le (by simp [hn0])]
          simp [hn0]
        obtain ⟨lb, rfl⟩ := hsome n0 (by omega)
        have hbf := fun Hx => before_fn (H := Hx) (y := y)
        have eqy := eq_mstate y.st nx
        unfold stc at eqy
        have hme : (q.layers.map lrow).eraseIdx n0 = (A ++ g0 ++ C).map lrow := by
          rw [← her, List.eraseIdx_eq_take_drop_succ, List.eraseIdx_eq_take_drop_succ, List.map_append, List.map_take, List.map_drop]
        have hG1 : y.st = nx → setG rev q.ins pk nx old (g0 ++ [y]) = g0 := fun h => by
          unfold setG; rw [if_neg hC1, if_pos hlast, if_pos (by simp [h])]; simp
        have hG2 : ¬ y.st = nx → setG rev q.ins pk nx old (g0 ++ [y]) = g0 ++ [y] := fun h => by
          unfold setG; rw [if_neg hC1, if_pos hlast, if_neg (by simp [h])]
        have hdel := fun Hx a c => delLayer_fn (H := Hx) (a := a) (cp := c) (n := q.layers.length) (i := n0) (css := q.layers.map lrow) (by omega) (lrow_one _) (by omega)
        repeat' (first | (refine O_ev WideF.wide rfl (Ev_sub rfl rfl hsub) rfl rfl ?_) | (refine O_ev WideF.wide rfl (Ev_loadR1 (q := 0) (d := 0) rfl rfl hget (by omega) rfl) rfl rfl ?_) | (refine A_drawL WideF.wide (.q 0 (.q 1 (.q 2 (.q 3 (.q 4 (.q 5 (.q 6 (.q 8 (.e 7 (.q 9 (.done []))))))))))) [] (by decide +kernel) ?_) | (refine D_ev rfl (Ev_sub rfl rfl hsub) rfl rfl ?_) | (refine D_ev rfl (Ev_loadR (q := 0) rfl rfl hget (by omega) rfl) rfl rfl ?_) | (refine E_ef rfl (Ef_callp WideF.wide (hbf _) ⟨rfl, trivial⟩ rfl ?_); refine ⟨Grow.same rfl rfl, ?_⟩) | (refine D_ev rfl (Ev_eqS rfl rfl Try.eqGuardType94 eqy) rfl rfl ?_) | (refine O_ef rfl (Ef_call (I := [_]) WideF.wide (hdel _ _ _) ⟨rfl, rfl, rfl, trivial⟩ rfl ?_); rintro v H2 I2 hle2 ⟨rfl, a', c', rfl, rfl⟩) | refine O_nil ?_ | refine A_seq ?_ | refine A_region ?_ | refine A_skip ?_ | refine A_block ?_ | (show drJ _ _ _ _ _ _ _ (.q _ _) _; refine D_q rfl ?_) | (show drJ _ _ _ _ _ _ _ (.e _ _) _; refine D_e rfl ?_) | (show drJ _ _ _ _ _ _ _ (.done _) _; refine D_done ?_; simp only [List.cons_append, List.nil_append]) | (show drQ _ _ _ _ _ _; first | refine D_ev rfl (Ev_pure rfl) rfl rfl ?_ | (show drQ _ _ _ ⟨_, .load _ _, _, _, _, _⟩ _ _; first | refine D_ev rfl (Ev_loadB1 (i := 1) rfl rfl rfl) rfl rfl ?_ | refine D_ev rfl (Ev_loadB (i := 4) rfl rfl rfl) rfl rfl ?_) | (show drQ _ _ _ ⟨_, .indexAddr _ _ _, _, _, _, _⟩ _ _; refine D_ev rfl (Ev_indexAddr rfl rfl (by omega) (by omega)) rfl rfl ?_) | (show drQ _ _ _ ⟨_, .fieldAddr _ _ _, _, _, _, _⟩ _ _; refine D_ev rfl (Ev_fieldAddr rfl rfl rfl) rfl rfl ?_)) | (show opsA _ _ _ _ _ _ _; first | (refine O_split rfl rfl (fun h => ?_) (fun h => ?_) <;> try (exfalso; omega)) | refine O_ev WideF.wide rfl (Ev_pure rfl) rfl rfl ?_ | (show opsA _ _ _ _ (⟨_, .load _ _, _, _, _, _⟩ :: _) _ _; refine O_ev WideF.wide rfl (Ev_loadB1 (i := 1) rfl rfl rfl) rfl rfl ?_) | (show opsA _ _ _ _ (⟨_, .indexAddr _ _ _, _, _, _, _⟩ :: _) _ _; refine O_ev WideF.wide rfl (Ev_indexAddr rfl rfl (by omega) (by omega)) rfl rfl ?_) | (show opsA _ _ _ _ (⟨_, .fieldAddr _ _ _, _, _, _, _⟩ :: _) _ _; refine O_ev WideF.wide rfl (Ev_fieldAddr rfl rfl rfl) rfl rfl ?_) | (show opsA _ _ _ _ (⟨_, .unOp _ _ _, _, _, _, _⟩ :: _) _ _; refine O_ev WideF.wide rfl (Ev_notb rfl) rfl rfl ?_) | (show opsA _ _ _ _ (⟨_, .store _ _ _, _, _, _, _⟩ :: _) _ _; refine O_f1 (O_ef rfl (Ef_store1 WideF.wide rfl rfl rfl rfl rfl ?_))) | refine O_skip WideF.wide rfl rfl rfl ?_) | (show wpA _ _ _ (.cond _ _ _) _ _ _ _; first | (refine A_if rfl (fun h => ?_) (fun h => ?_) <;> try (exfalso; omega)) | refine A_iffalse rfl ?_))
        all_goals try (exfalso; omega)
        all_goals first
          | (have hst : y.st = nx := by assumption
             rw [hG1 hst, hme]
             exact Shift.to ⟨_, _, _, A ++ g0 ++ C, by rw [decide_eq_true hlast, Bool.not_true, Bool.and_false, Bool.false_and], rfl, rfl⟩ ⟨rfl, rfl, rfl, ⟨rfl, rfl, rfl, rfl, rfl, rfl, rfl, trivial⟩, Own.subi [1, 0, 2, 3, 4, 5] (by decide) rfl rfl⟩)
          | (have hst : ¬ y.st = nx := by assumption
             rw [hG2 hst, ← hL]
             exact Shift.to ⟨_, _, _, q.layers, by rw [decide_eq_true hlast, Bool.not_true, Bool.and_false, Bool.false_and], rfl, rfl⟩ ⟨rfl, rfl, rfl, ⟨rfl, rfl, rfl, rfl, rfl, rfl, rfl, trivial⟩, Own.subi [0, 1, 2, 3, 4, 5] (by decide) rfl rfl⟩)
      · have hGi : setG rev q.ins pk nx old g = g ++ [⟨rev, pk, old.val, old.set⟩] := by
          unfold setG; rw [if_neg hC1, if_neg hlast]
        have hfr := fun Hx => from_fn (H := Hx) (y := ⟨rev, pk, 0, false⟩) (s := old)
        have hinl := fun Hx a c va vc => insLayer_fn (H := Hx) (a := a) (va := va) (cp := c) (vc := vc) (n := q.layers.length) (i := A.length + g.length) (css := q.layers.map lrow) (nv := lrow ⟨rev, pk, old.val, old.set⟩) (by omega) (lrow_one _) (by intro u hu; simp [lrow] at hu; rcases hu with rfl | rfl | rfl | rfl <;> rfl) (by omega)
        have hmi : (q.layers.map lrow).take (A.length + g.length) ++ lrow ⟨rev, pk, old.val, old.set⟩ :: (q.layers.map lrow).drop (A.length + g.length) = (A ++ setG rev q.ins pk nx old g ++ C).map lrow := by
          rw [hGi, hL, ← List.map_take, ← List.map_drop, List.take_append_of_le_length (by simp), List.take_of_length_le (by simp), List.drop_append_of_le_length (by simp), List.drop_of_length_le (by simp)]
          simp
        by_cases hg0 : g = []
        · subst hg0
          rw [decide_eq_false (fun h => h rfl)] at hhb
          subst hhb
          have hins' : ¬ q.ins = rev := fun h => hins ⟨h, rfl⟩
          repeat' (first | (refine A_drawi WideF.wide (.q 0 (.q 1 (.q 2 (.q 3 (.q 4 (.q 5 (.q 6 (.q 7 (.q 8 (.e 9 (.e 10 (.r (.e 11 (.q 12 (.q 13 (.e 14 (.done []))))))))))))))))) [11, 12, 13, 14] [0] [1, 2, 3, 4, 5] (by decide +kernel) (by decide) rfl ?_; simp only [Own.picks, Own.rget, List.cons_append, List.nil_append, List.append_nil]) | (refine E_ef rfl (Ef_callp WideF.wide (hfr _) ⟨rfl, rfl, trivial⟩ rfl ?_); refine ⟨Grow.same rfl rfl, ?_⟩) | (refine E_ef rfl (Ef_build1a WideF.wide rfl rfl rfl rfl rfl ?_); intro bz; refine ⟨Grow.same rfl rfl, ?_⟩) | (refine E_ef rfl (Ef_f1 (Ef_call (I := [_, _]) WideF.wide (hinl _ _ _ _ 1) ⟨rfl, rfl, rfl, trivial⟩ rfl ?_)); rintro v H2 I2 hle2 ⟨rfl, a', c', rfl, rfl⟩; refine ⟨Grow.same rfl rfl, ?_⟩) | refine O_nil ?_ | refine A_seq ?_ | refine A_region ?_ | refine A_ret ?_ | refine A_block ?_ | (show drJ _ _ _ _ _ _ _ (.q _ _) _; refine D_q rfl ?_) | (show drJ _ _ _ _ _ _ _ (.e _ _) _; refine D_e rfl ?_) | (show drJ _ _ _ _ _ _ _ (.r _) _; refine D_r ?_; simp only [List.cons_append, List.nil_append]) | (show drJ _ _ _ _ _ _ _ (.done _) _; refine D_done ?_; simp only [List.cons_append, List.nil_append]) | (show drQ _ _ _ _ _ _; first | refine D_ev rfl (Ev_pure rfl) rfl rfl ?_ | (show drQ _ _ _ ⟨_, .load _ _, _, _, _, _⟩ _ _; first | refine D_ev rfl (Ev_loadB1 (i := 0) rfl rfl rfl) rfl rfl ?_ | refine D_ev rfl (Ev_loadB1 (i := 1) rfl rfl rfl) rfl rfl ?_ | refine D_ev rfl (Ev_loadB (i := 4) rfl rfl rfl) rfl rfl ?_) | (show drQ _ _ _ ⟨_, .fieldAddr _ _ _, _, _, _, _⟩ _ _; refine D_ev rfl (Ev_fieldAddr rfl rfl rfl) rfl rfl ?_) | (show drQ _ _ _ ⟨_, .build _ _, _, _, _, _⟩ _ _; refine D_ev rfl (Ev_build (vs := [(_, _), (_, _)]) ⟨rfl, rfl, rfl, rfl, trivial⟩ rfl) rfl rfl ?_)) | (show drE _ _ _ _ _ _ _; (show drE _ _ _ _ ⟨_, .store _ _ _, _, _, _, _⟩ _ _; (refine E_ef rfl (Ef_f1 (Ef_store1 WideF.wide rfl rfl rfl rfl rfl ?_)); refine ⟨Grow.same rfl rfl, ?_⟩))) | (show opsA _ _ _ _ _ _ _; first | (refine O_split rfl rfl (fun h => ?_) (fun h => ?_) <;> try (exfalso; omega)) | refine O_ev WideF.wide rfl (Ev_pure rfl) rfl rfl ?_ | (show opsA _ _ _ _ (⟨_, .load _ _, _, _, _, _⟩ :: _) _ _; refine O_ev WideF.wide rfl (Ev_loadB1 (i := 1) rfl rfl rfl) rfl rfl ?_) | (show opsA _ _ _ _ (⟨_, .fieldAddr _ _ _, _, _, _, _⟩ :: _) _ _; refine O_ev WideF.wide rfl (Ev_fieldAddr rfl rfl rfl) rfl rfl ?_) | (show opsA _ _ _ _ (⟨_, .call _, _, _, _, _⟩ :: _) _ _; refine O_ev WideF.wide rfl (Ev_llen rfl) rfl rfl ?_) | (show opsA _ _ _ _ (⟨_, .build _ _, _, _, _, _⟩ :: _) _ _; refine O_ev WideF.wide rfl (Ev_build (vs := []) trivial rfl) rfl rfl ?_) | (show opsA _ _ _ _ (⟨_, .store _ _ _, _, _, _, _⟩ :: _) _ _; refine O_f3 (O_ef rfl (Ef_storew WideF.wide rfl rfl rfl rfl rfl ?_))) | refine O_skip WideF.wide rfl rfl rfl ?_) | (show wpA _ _ _ (.cond _ _ _) _ _ _ _; first | (refine A_if rfl (fun h => ?_) (fun h => ?_) <;> try (exfalso; omega)) | refine A_iffalse rfl ?_))
          all_goals try (exfalso; omega)
          all_goals try (rw [hmi]; exact Shift.to ⟨_, _, _, A ++ setG rev q.ins pk nx old [] ++ C, by rw [decide_eq_false (by omega : ¬ 64 ≤ q.layers.length), Bool.and_false], rfl, rfl⟩ ⟨rfl, rfl, rfl, ⟨rfl, rfl, rfl, rfl, rfl, rfl, rfl, trivial⟩, Own.subi [1, 0, 2, 3, 4, 5] (by decide) rfl rfl⟩)
          all_goals
            refine End_e (RetT2 rfl rfl (i := 0) rfl rfl rfl) ?_
            refine ⟨⟨_, Head.none, 9, rfl, zHead_none _, hspec _ _ (fun _ => ⟨rfl, rfl⟩) (fun h => ?_)⟩, rfl⟩
            exfalso
            rw [decide_eq_false hC1, decide_eq_false hlast, decide_eq_true (by omega : 64 ≤ q.layers.length)] at h
            cases h
        · rw [decide_eq_true hg0] at hhb
          subst hhb
          have hgl : 0 < g.length := List.length_pos_iff.2 hg0
          obtain ⟨lb, rfl⟩ := hsome (A.length + g.length - 1) (by omega)
          obtain ⟨z, hz⟩ : ∃ z, q.layers[A.length + g.length - 1]? = some z := ⟨_, List.getElem?_eq_getElem (by omega)⟩
          have hzr : ¬ z.rev = rev := fun h => hlast (by
            rw [hL, List.append_assoc, List.getElem?_append_right (by omega), List.getElem?_append_left (by omega)] at hz
            rw [List.getLast?_eq_getElem?, show g.length - 1 = A.length + g.length - 1 - A.length by omega, hz]
            simp [h])
          have hget : (q.layers.map lrow)[A.length + g.length - 1]? = some (lrow z) := by rw [List.getElem?_map, hz]; rfl
          have hgz : lrow z = [.int .i64 z.rev, .int .i64 z.key, .int .i64 z.before, .bool z.had] := rfl
          repeat' (first | (refine O_ev WideF.wide rfl (Ev_loadR1 (q := 0) (d := 0) rfl rfl hget (by omega) rfl) rfl rfl ?_) | (refine A_drawi WideF.wide (.q 0 (.q 1 (.q 2 (.q 3 (.q 4 (.q 5 (.q 6 (.q 7 (.q 8 (.e 9 (.e 10 (.r (.e 11 (.q 12 (.q 13 (.e 14 (.done []))))))))))))))))) [11, 12, 13, 14] [0] [1, 2, 3, 4, 5] (by decide +kernel) (by decide) rfl ?_; simp only [Own.picks, Own.rget, List.cons_append, List.nil_append, List.append_nil]) | (refine E_ef rfl (Ef_callp WideF.wide (hfr _) ⟨rfl, rfl, trivial⟩ rfl ?_); refine ⟨Grow.same rfl rfl, ?_⟩) | (refine E_ef rfl (Ef_build1a WideF.wide rfl rfl rfl rfl rfl ?_); intro bz; refine ⟨Grow.same rfl rfl, ?_⟩) | (refine E_ef rfl (Ef_f1 (Ef_call (I := [_, _]) WideF.wide (hinl _ _ _ _ 1) ⟨rfl, rfl, rfl, trivial⟩ rfl ?_)); rintro v H2 I2 hle2 ⟨rfl, a', c', rfl, rfl⟩; refine ⟨Grow.same rfl rfl, ?_⟩) | refine O_nil ?_ | refine A_seq ?_ | refine A_region ?_ | refine A_ret ?_ | refine A_block ?_ | (show drJ _ _ _ _ _ _ _ (.q _ _) _; refine D_q rfl ?_) | (show drJ _ _ _ _ _ _ _ (.e _ _) _; refine D_e rfl ?_) | (show drJ _ _ _ _ _ _ _ (.r _) _; refine D_r ?_; simp only [List.cons_append, List.nil_append]) | (show drJ _ _ _ _ _ _ _ (.done _) _; refine D_done ?_; simp only [List.cons_append, List.nil_append]) | (show drQ _ _ _ _ _ _; first | refine D_ev rfl (Ev_pure rfl) rfl rfl ?_ | (show drQ _ _ _ ⟨_, .load _ _, _, _, _, _⟩ _ _; first | refine D_ev rfl (Ev_loadB1 (i := 0) rfl rfl rfl) rfl rfl ?_ | refine D_ev rfl (Ev_loadB1 (i := 1) rfl rfl rfl) rfl rfl ?_ | refine D_ev rfl (Ev_loadB (i := 4) rfl rfl rfl) rfl rfl ?_) | (show drQ _ _ _ ⟨_, .fieldAddr _ _ _, _, _, _, _⟩ _ _; refine D_ev rfl (Ev_fieldAddr rfl rfl rfl) rfl rfl ?_) | (show drQ _ _ _ ⟨_, .build _ _, _, _, _, _⟩ _ _; refine D_ev rfl (Ev_build (vs := [(_, _), (_, _)]) ⟨rfl, rfl, rfl, rfl, trivial⟩ rfl) rfl rfl ?_)) | (show drE _ _ _ _ _ _ _; (show drE _ _ _ _ ⟨_, .store _ _ _, _, _, _, _⟩ _ _; (refine E_ef rfl (Ef_f1 (Ef_store1 WideF.wide rfl rfl rfl rfl rfl ?_)); refine ⟨Grow.same rfl rfl, ?_⟩))) | (show opsA _ _ _ _ _ _ _; first | (refine O_split rfl rfl (fun h => ?_) (fun h => ?_) <;> try (exfalso; omega)) | refine O_ev WideF.wide rfl (Ev_pure rfl) rfl rfl ?_ | (show opsA _ _ _ _ (⟨_, .load _ _, _, _, _, _⟩ :: _) _ _; refine O_ev WideF.wide rfl (Ev_loadB1 (i := 1) rfl rfl rfl) rfl rfl ?_) | (show opsA _ _ _ _ (⟨_, .indexAddr _ _ _, _, _, _, _⟩ :: _) _ _; refine O_ev WideF.wide rfl (Ev_indexAddr rfl rfl (by omega) (by omega)) rfl rfl ?_) | (show opsA _ _ _ _ (⟨_, .fieldAddr _ _ _, _, _, _, _⟩ :: _) _ _; refine O_ev WideF.wide rfl (Ev_fieldAddr rfl rfl rfl) rfl rfl ?_) | (show opsA _ _ _ _ (⟨_, .call _, _, _, _, _⟩ :: _) _ _; refine O_ev WideF.wide rfl (Ev_llen rfl) rfl rfl ?_) | (show opsA _ _ _ _ (⟨_, .binOp _ _ _ _ _, _, _, _, _⟩ :: _) _ _; refine O_ev WideF.wide rfl (Ev_sub rfl rfl (wi64 (by omega))) rfl rfl ?_) | (show opsA _ _ _ _ (⟨_, .unOp _ _ _, _, _, _, _⟩ :: _) _ _; refine O_ev WideF.wide rfl (Ev_notb rfl) rfl rfl ?_) | (show opsA _ _ _ _ (⟨_, .build _ _, _, _, _, _⟩ :: _) _ _; refine O_ev WideF.wide rfl (Ev_build (vs := []) trivial rfl) rfl rfl ?_) | (show opsA _ _ _ _ (⟨_, .store _ _ _, _, _, _, _⟩ :: _) _ _; refine O_f3 (O_ef rfl (Ef_storew WideF.wide rfl rfl rfl rfl rfl ?_))) | refine O_skip WideF.wide rfl rfl rfl ?_) | (show wpA _ _ _ (.cond _ _ _) _ _ _ _; first | (refine A_if rfl (fun h => ?_) (fun h => ?_) <;> try (exfalso; omega)) | refine A_iffalse rfl ?_))
          all_goals try (exfalso; omega)
          all_goals try (rw [hmi]; exact Shift.to ⟨_, _, _, A ++ setG rev q.ins pk nx old g ++ C, by rw [decide_eq_false (by omega : ¬ 64 ≤ q.layers.length), Bool.and_false], rfl, rfl⟩ ⟨rfl, rfl, rfl, ⟨rfl, rfl, rfl, rfl, rfl, rfl, rfl, trivial⟩, Own.subi [1, 0, 2, 3, 4, 5] (by decide) rfl rfl⟩)
          all_goals
            refine End_e (RetT2 rfl rfl (i := 0) rfl rfl rfl) ?_
            refine ⟨⟨_, Head.none, 9, rfl, zHead_none _, hspec _ _ (fun _ => ⟨rfl, rfl⟩) (fun h => ?_)⟩, rfl⟩
            exfalso
            rw [decide_eq_false hC1, decide_eq_false hlast, decide_eq_true (by omega : 64 ≤ q.layers.length)] at h
            cases h
  rintro s ⟨la2, ln2, lc2, L', hE, hL', rfl⟩
  have hks := hk3 _ hgk' hgo'
  rw [← hL'] at hks
  have hw := fun i m da dn dc la ln lc => with_raw (i := i) (m := m) (da := da) (dn := dn) (dc := dc) (la := la) (ln := ln) (lc := lc) (k := pk) (s := nx) r1 hq.inc (by omega)
  repeat' (first | (refine O_ef rfl (Ef_call (I := []) WideF.wide (hw _ _ _ _ _ _ _ _) ⟨rfl, rfl, rfl, trivial⟩ rfl ?_); rintro v H2 I2 hle2 ⟨⟨pa3, pn3, pc3, rfl, r3⟩, rfl⟩) | refine O_nil ?_ | refine A_seq ?_ | refine A_region ?_ | refine A_ret ?_ | (show opsA _ _ _ _ _ _ _; first | refine O_ev WideF.wide rfl (Ev_pure rfl) rfl rfl ?_ | (show opsA _ _ _ _ (⟨_, .load _ _, _, _, _, _⟩ :: _) _ _; first | refine O_ev WideF.wide rfl (Ev_loadB1 (i := 2) rfl rfl rfl) rfl rfl ?_ | refine O_ev WideF.wide rfl (Ev_loadB (i := 1) rfl rfl rfl) rfl rfl ?_ | refine O_ev WideF.wide rfl (Ev_loadB (i := 4) rfl rfl rfl) rfl rfl ?_) | (show opsA _ _ _ _ (⟨_, .fieldAddr _ _ _, _, _, _, _⟩ :: _) _ _; refine O_ev WideF.wide rfl (Ev_fieldAddr rfl rfl rfl) rfl rfl ?_) | (show opsA _ _ _ _ (⟨_, .store _ _ _, _, _, _, _⟩ :: _) _ _; refine O_f3 (O_ef rfl (Ef_storew WideF.wide rfl rfl rfl rfl rfl ?_)))))
  refine End_s (RetT2 rfl rfl (i := 0) rfl rfl rfl) ?_
  refine Shift.lek ⟨137, [], H2, [.row (.slice la2 ln2 lc2) 4 (L'.map lrow)], [], []⟩ ⟨rfl, rfl, rfl, trivial, Own.subi [1] (by decide) rfl rfl⟩ ?_
  exact Shift_freeze (lrow_one _) fun H' hle r4 => Shift.pure ⟨rfl, ⟨_, ⟨withP q.props pk nx, q.ins, q.move, q.dels, L'⟩, 0, rfl, ⟨⟨_, _, _, _, _, _, _, _, _, rfl, r3.mono hle, r2.mono (hle2.trans hle), r4⟩⟩, hspec _ _ (fun h => by rw [Bool.not_false, Bool.true_and, hE] at h; cases h) (fun _ => ⟨hks, rfl⟩)⟩, rfl⟩
end Go.Proofs.Ythniohgeojenaaa
