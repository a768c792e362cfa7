/-
  MarkSets.
-/
import Derived.Test.YthniohgeojenaaaM29
import Derived.Test.YthniohgeojenaaaM26
import Derived.Test.YthniohgeojenaaaN0
namespace Go.Proofs.Ythniohgeojenaaa
open Go
set_option linter.unusedVariables false
set_option linter.unusedSimpArgs false
/-- what Set returns is in order, and the state is the new one -/
theorem SetSpec.good {q o : Head} {rev k e : Int} {s : St} (hq : Good q) (h : SetSpec q rev k s o e) : Good o := by
  unfold SetSpec at h
  split at h
  · rw [h.1]; exact hq
  · split at h
    · rw [h.1]; exact none_good
    · exact h.1.good
theorem SetSpec.now {q o : Head} {rev k : Int} {s : St} (h : SetSpec q rev k s o 0) : getP o.props k = s := by
  unfold SetSpec at h
  split at h
  · rename_i h1; rw [h.1]; exact h1
  · split at h
    · have := h.2; cases this
    · have := h.1.props k; rwa [if_pos rfl] at this
theorem SetSpec.orig {q o : Head} {rev k : Int} {s : St} (hq : Good q) (h : SetSpec q rev k s o 0) (h1 : rev ≠ 0) (h2 : q.ins ≠ rev) : decH (fun _ => false) (fun _ => true) o = decH (fun _ => false) (fun _ => true) q := by
  unfold SetSpec at h
  split at h
  · rw [h.1]
  · split at h
    · have := h.2; cases this
    · exact h.1.orig hq h1 h2
theorem SetSpec.ins {q o : Head} {rev k : Int} {s : St} (h : SetSpec q rev k s o 0) : o.ins = q.ins := by
  unfold SetSpec at h
  split at h
  · rw [h.1]
  · split at h
    · have := h.2; cases this
    · exact h.1.ins
theorem SetSpec.err {q o : Head} {rev k e : Int} {s : St} (h : SetSpec q rev k s o e) : e = 0 ∨ (e = 9 ∧ o = Head.none) := by
  unfold SetSpec at h
  split at h
  · exact .inl h.2
  · split at h
    · exact .inr ⟨h.2, h.1⟩
    · exact .inl h.2
theorem ext_len_props {l : List Prp} (h : IncP l) : ∀ {m : List Prp} {k : Int}, IncP m → (∀ x, x ≠ k → getP l x = getP m x) → l.length ≤ m.length + 1 := by
  intro m k hm he
  have e : withP l k (getP m k) = m := by
    refine ext_props (withP_inc h) hm fun x => ?_
    rw [getP_with (getP_ok _ _)]
    by_cases hx : x = k
    · rw [if_pos hx, hx]
    · rw [if_neg hx, he x hx]
  have e2 : withP m k (getP l k) = l := by
    refine ext_props (withP_inc hm) h fun x => ?_
    rw [getP_with (getP_ok _ _)]
    by_cases hx : x = k
    · rw [if_pos hx, hx]
    · rw [if_neg hx, he x hx]
  have := withP_len m k (getP l k)
  rw [e2] at this
  exact this
theorem len_keys : ∀ {l m : List Layr} {k : Int}, (∀ x, x ≠ k → layersK l x = layersK m x) → (layersK l k).length ≤ (layersK m k).length + 1 → Asc l → Asc m → l.length ≤ m.length + 1 := by
  intro l m k he hk hl hm
  obtain ⟨A, C, e1, a1, c1, _, _, hA, hC⟩ := parts3 hl k
  obtain ⟨A', C', e2, a2, c2, _, _, hA', hC'⟩ := parts3 hm k
  have h := ext_layers (l := A ++ [] ++ C) (l' := A' ++ [] ++ C') (asc3 hA hC a1 (fun y hy => by cases hy) c1) (asc3 hA' hC' a2 (fun y hy => by cases hy) c2) fun x => by
    by_cases hx : x = k
    · subst hx
      rw [keys3 a1 (fun y hy => by cases hy) c1, keys3 a2 (fun y hy => by cases hy) c2, if_pos rfl, if_pos rfl]
    · have h1 := he x hx
      rw [e1, e2, keys3 a1 layersK_key c1, keys3 a2 layersK_key c2, if_neg hx, if_neg hx] at h1
      rw [keys3 a1 (fun y hy => by cases hy) c1, keys3 a2 (fun y hy => by cases hy) c2, if_neg hx, if_neg hx]
      exact h1
  have h2 := congrArg List.length h
  have h3 := congrArg List.length e1
  have h4 := congrArg List.length e2
  simp only [List.length_append, List.length_nil] at h2 h3 h4
  omega
theorem setG_len (rev ins k : Int) (s p : St) (g : List Layr) : (setG rev ins k s p g).length ≤ g.length + 1 := by
  unfold setG
  split
  · omega
  · split
    · split
      · rw [List.length_dropLast]; omega
      · omega
    · simp
theorem SetSpec.mass {q o : Head} {rev k e : Int} {s : St} (hq : Good q) (h : SetSpec q rev k s o e) : o.mass ≤ q.mass + 2 := by
  unfold SetSpec at h
  split at h
  · rw [h.1]; omega
  · split at h
    · rw [h.1]; simp [Head.none, Head.mass]
    · have hk := h.1
      have h1 := ext_len_props hk.good.inc (m := q.props) (k := k) hq.inc fun x hx => by have := hk.props x; rwa [if_neg hx] at this
      have h2 := len_keys (l := o.layers) (m := q.layers) (k := k) (fun x hx => by have := hk.layers x; rwa [if_neg hx] at this) (by have := hk.layers k; rw [if_pos rfl] at this; rw [this]; exact setG_len _ _ _ _ _ _) hk.good.asc hq.asc
      unfold Head.mass
      rw [hk.dels]
      omega
attribute [local irreducible] wpA opsA drJ drQ drE Ef Ev Shift Fn
set_option maxRecDepth 100000 in
set_option maxHeartbeats 8000000 in
theorem MarkSets_fn {H : Hp} {hcs : List Value} {q : Head} {rev : Int} {p : Sett} (hh : HeadH H hcs q) (hl : q.mass < 1073741824) :
    Fn Try.prog 7 [.agg hcs.toArray, .int .i64 rev, .agg (srow p).toArray] H [] fun v _ I' => v = .bool true ∧ I' = [] := by
  obtain ⟨pk, pv, clear⟩ := p
  obtain ⟨pa, pn, pc, da, dn, dc, la, ln, lc, rfl, h1, h2, h3⟩ := hh.ex
  have hord := ordered_fn hh hl
  refine Fn_of _ _ Try.func7 rfl Try.ntmps7 rfl fun c => ?_
  refine A_seq ?_
  refine A_cutu (fun s => ∃ b3 b5, s = ⟨121, [(1, .int .i64 rev), (3, ptr b3), (5, ptr b5), (6, .bool false)], H, [.box b3 [.slice pa pn pc, .int .i64 q.ins, .int .i64 q.move, .slice da dn dc, .slice la ln lc], .box b5 [.int .i64 pk, .int .i64 pv, .bool clear]], [], []⟩) ?_ ?_
  · unfold srow
    repeat' (first | refine O_nil ?_ | refine A_region ?_ | (show opsA _ _ _ _ _ _ _; first | refine O_ev WideF.wide rfl (Ev_pure rfl) rfl rfl ?_ | (show opsA _ _ _ _ (⟨_, .box _ _, _, _, _, _⟩ :: _) _ _; (refine O_ef rfl (Ef_boxa WideF.wide rfl rfl ?_); intro b))))
    exact Shift.to ⟨_, _, rfl⟩ ⟨rfl, rfl, rfl, ⟨rfl, rfl, rfl, rfl, trivial⟩, Own.subi [1, 0] (by decide) rfl rfl⟩
  rintro s ⟨b3, b5, rfl⟩
  refine A_seq ?_
  refine A_cutu (fun s => ∃ (H1 : Hp) (cs1 : List Value), HeadH H1 cs1 (ordH q) ∧ s = ⟨121, [(1, .int .i64 rev), (3, ptr b3), (5, ptr b5), (6, .bool false)], H1, [.box b3 cs1, .box b5 [.int .i64 pk, .int .i64 pv, .bool clear]], [], []⟩) ?_ ?_
  · repeat' (first | (refine O_ef rfl (Ef_call (I := []) WideF.wide hord ⟨rfl, trivial⟩ rfl ?_); rintro v H1 I1 hle1 ⟨⟨cs1, rfl, hcs1⟩, rfl⟩; obtain ⟨pa1, pn1, pc1, da1, dn1, dc1, la1, ln1, lc1, rfl, h11, h21, h31⟩ := hcs1.ex) | refine O_nil ?_ | refine A_region ?_ | (show opsA _ _ _ _ _ _ _; first | (show opsA _ _ _ _ (⟨_, .load _ _, _, _, _, _⟩ :: _) _ _; refine O_ev WideF.wide rfl (Ev_loadB (i := 0) rfl rfl rfl) rfl rfl ?_) | (show opsA _ _ _ _ (⟨_, .store _ _ _, _, _, _, _⟩ :: _) _ _; refine O_ef rfl (Ef_storew WideF.wide rfl rfl rfl rfl rfl ?_))))
    exact Shift.to ⟨_, _, hcs1, rfl⟩ ⟨rfl, rfl, rfl, ⟨rfl, rfl, rfl, rfl, trivial⟩, Own.subi [0, 1] (by decide) rfl rfl⟩
  rintro s ⟨H1, cs1, hcs1, rfl⟩
  have hgood := ordH_good q
  have hmass := ordH_mass q
  generalize ordH q = o at *
  obtain ⟨pa1, pn1, pc1, da1, dn1, dc1, la1, ln1, lc1, rfl, h11, h21, h31⟩ := hcs1.ex
  have hset := Set_fn (rev := rev) (pk := pk) (pv := pv) (clear := clear) hcs1 hgood (by omega)
  have hsok := setS_ok pv clear
  refine A_seq ?_
  refine A_cutu (fun s => ∃ (H2 : Hp) (cs2 : List Value) (x : Head) (e : Int) (b7 : Nat), HLe H1 H2 ∧ HeadH H2 cs2 x ∧ SetSpec o rev pk (setS pv clear) x e ∧ s = ⟨121, [(1, .int .i64 rev), (3, ptr b3), (5, ptr b5), (6, .bool false), (7, ptr b7), (8, .int .i64 e)], H2, [.box b3 [.slice pa1 pn1 pc1, .int .i64 o.ins, .int .i64 o.move, .slice da1 dn1 dc1, .slice la1 ln1 lc1], .box b5 [.int .i64 pk, .int .i64 pv, .bool clear], .box b7 cs2], [], []⟩) ?_ ?_
  · repeat' (first | (refine O_ef rfl (Ef_call (I := []) WideF.wide hset ⟨rfl, rfl, rfl, rfl, trivial⟩ rfl ?_); rintro v H2 I2 hle2 ⟨⟨cs2, x, e, rfl, hcs2, hsp⟩, rfl⟩; obtain ⟨pa2, pn2, pc2, da2, dn2, dc2, la2, ln2, lc2, rfl, _, _, _⟩ := hcs2.ex) | refine O_nil ?_ | refine A_region ?_ | (show opsA _ _ _ _ _ _ _; first | refine O_ev WideF.wide rfl (Ev_pure rfl) rfl rfl ?_ | (show opsA _ _ _ _ (⟨_, .load _ _, _, _, _, _⟩ :: _) _ _; first | refine O_ev WideF.wide rfl (Ev_loadB1 (i := 1) rfl rfl rfl) rfl rfl ?_ | refine O_ev WideF.wide rfl (Ev_loadB (i := 0) rfl rfl rfl) rfl rfl ?_ | refine O_ev WideF.wide rfl (Ev_loadBs (i := 1) rfl rfl rfl rfl) rfl rfl ?_) | (show opsA _ _ _ _ (⟨_, .fieldAddr _ _ _, _, _, _, _⟩ :: _) _ _; refine O_ev WideF.wide rfl (Ev_fieldAddr rfl rfl rfl) rfl rfl ?_) | (show opsA _ _ _ _ (⟨_, .alloc _, _, _, _, _⟩ :: _) _ _; (refine O_ef rfl (Ef_alloc WideF.wide rfl ?_); intro b)) | (show opsA _ _ _ _ (⟨_, .store _ _ _, _, _, _, _⟩ :: _) _ _; refine O_ef rfl (Ef_storew WideF.wide rfl rfl rfl rfl rfl ?_))))
    exact Shift.to ⟨_, _, _, _, _, hle2, hcs2, hsp, rfl⟩ ⟨rfl, rfl, rfl, ⟨rfl, rfl, rfl, rfl, rfl, rfl, trivial⟩, Own.subi [1, 2, 0] (by decide) rfl rfl⟩
  rintro s ⟨H2, cs2, x, e, b7, hle2, hcs2, hsp, rfl⟩
  refine A_seq ?_
  refine A_cutu (fun s => ∃ b9, s = ⟨121, [(1, .int .i64 rev), (3, ptr b3), (5, ptr b5), (6, .bool false), (7, ptr b7), (8, .int .i64 e), (9, ptr b9)], H2, [.box b3 [.slice pa1 pn1 pc1, .int .i64 o.ins, .int .i64 o.move, .slice da1 dn1 dc1, .slice la1 ln1 lc1], .box b5 [.int .i64 pk, .int .i64 pv, .bool clear], .box b7 cs2, .box b9 [.int .i64 pv, .bool true]], [], []⟩) ?_ ?_
  · repeat' (first | refine O_nil ?_ | refine A_region ?_ | (show opsA _ _ _ _ _ _ _; first | (show opsA _ _ _ _ (⟨_, .load _ _, _, _, _, _⟩ :: _) _ _; refine O_ev WideF.wide rfl (Ev_loadB1 (i := 1) rfl rfl rfl) rfl rfl ?_) | (show opsA _ _ _ _ (⟨_, .fieldAddr _ _ _, _, _, _, _⟩ :: _) _ _; refine O_ev WideF.wide rfl (Ev_fieldAddr rfl rfl rfl) rfl rfl ?_) | (show opsA _ _ _ _ (⟨_, .build _ _, _, _, _, _⟩ :: _) _ _; refine O_ev WideF.wide rfl (Ev_build (vs := [(_, _), (_, _)]) ⟨rfl, rfl, rfl, rfl, trivial⟩ rfl) rfl rfl ?_) | (show opsA _ _ _ _ (⟨_, .alloc _, _, _, _, _⟩ :: _) _ _; (refine O_ef rfl (Ef_alloc WideF.wide rfl ?_); intro b)) | (show opsA _ _ _ _ (⟨_, .store _ _ _, _, _, _, _⟩ :: _) _ _; refine O_ef rfl (Ef_storew WideF.wide rfl rfl rfl rfl rfl ?_))))
    exact Shift.to ⟨_, rfl⟩ ⟨rfl, rfl, rfl, ⟨rfl, rfl, rfl, rfl, rfl, rfl, rfl, trivial⟩, Own.subi [1, 2, 3, 0] (by decide) rfl rfl⟩
  rintro s ⟨b9, rfl⟩
  refine A_seq ?_
  refine A_cutu (fun s => s = ⟨121, [(1, .int .i64 rev), (3, ptr b3), (5, ptr b5), (6, .bool false), (7, ptr b7), (8, .int .i64 e), (9, ptr b9)], H2, [.box b3 [.slice pa1 pn1 pc1, .int .i64 o.ins, .int .i64 o.move, .slice da1 dn1 dc1, .slice la1 ln1 lc1], .box b5 [.int .i64 pk, .int .i64 pv, .bool clear], .box b7 cs2, .box b9 (stc (setS pv clear))], [], []⟩) ?_ ?_
  · cases clear
    · repeat' (first | refine O_nil ?_ | refine A_seq ?_ | refine A_region ?_ | refine A_skip ?_ | (show opsA _ _ _ _ _ _ _; first | (show opsA _ _ _ _ (⟨_, .load _ _, _, _, _, _⟩ :: _) _ _; refine O_ev WideF.wide rfl (Ev_loadB1 (i := 1) rfl rfl rfl) rfl rfl ?_) | (show opsA _ _ _ _ (⟨_, .fieldAddr _ _ _, _, _, _, _⟩ :: _) _ _; refine O_ev WideF.wide rfl (Ev_fieldAddr rfl rfl rfl) rfl rfl ?_)) | (show wpA _ _ _ (.cond _ _ _) _ _ _ _; refine A_iffalse rfl ?_))
      exact Shift.to rfl ⟨rfl, rfl, rfl, ⟨rfl, rfl, rfl, rfl, rfl, rfl, rfl, trivial⟩, Own.subi [0, 1, 2, 3] (by decide) rfl rfl⟩
    · repeat' (first | refine O_nil ?_ | refine A_seq ?_ | refine A_region ?_ | (show opsA _ _ _ _ _ _ _; first | (show opsA _ _ _ _ (⟨_, .load _ _, _, _, _, _⟩ :: _) _ _; refine O_ev WideF.wide rfl (Ev_loadB1 (i := 1) rfl rfl rfl) rfl rfl ?_) | (show opsA _ _ _ _ (⟨_, .fieldAddr _ _ _, _, _, _, _⟩ :: _) _ _; refine O_ev WideF.wide rfl (Ev_fieldAddr rfl rfl rfl) rfl rfl ?_) | (show opsA _ _ _ _ (⟨_, .build _ _, _, _, _, _⟩ :: _) _ _; refine O_ev WideF.wide rfl (Ev_build (vs := []) trivial rfl) rfl rfl ?_) | (show opsA _ _ _ _ (⟨_, .store _ _ _, _, _, _, _⟩ :: _) _ _; refine O_f3 (O_ef rfl (Ef_storew WideF.wide rfl rfl rfl rfl rfl ?_)))) | (show wpA _ _ _ (.cond _ _ _) _ _ _ _; refine A_iftrue rfl ?_))
      first | exact Shift.to rfl ⟨rfl, rfl, rfl, ⟨rfl, rfl, rfl, rfl, rfl, rfl, rfl, trivial⟩, Own.subi [1, 2, 3, 0] (by decide) rfl rfl⟩ | exact Shift.to rfl ⟨rfl, rfl, rfl, ⟨rfl, rfl, rfl, rfl, rfl, rfl, rfl, trivial⟩, Own.subi [0, 1, 2, 3] (by decide) rfl rfl⟩
  rintro s rfl
  generalize setS pv clear = sx at hsok hsp ⊢
  have hmx := hsp.mass hgood
  have hgx := hsp.good hgood
  have hcs12 := hcs1.mono hle2
  have hch := change_fn (rev := rev) (k := pk) hcs12 hgood (by omega) hsok
  obtain ⟨pa2, pn2, pc2, da2, dn2, dc2, la2, ln2, lc2, rfl, h12, h22, h32⟩ := hcs2.ex
  have l12 := h12.len
  simp only [List.length_map] at l12
  unfold stc
  refine A_seq ?_
  refine A_cutu (fun s => ∃ (H3 : Hp) (cs3 : List Value) (b10 : Nat), HLe H2 H3 ∧ HeadH H3 cs3 x ∧ s = ⟨121, [(1, .int .i64 rev), (3, ptr b3), (5, ptr b5), (6, .bool false), (7, ptr b7), (8, .int .i64 e), (9, ptr b9), (10, ptr b10), (11, .int .i64 e)], H3, [.box b3 [.slice pa1 pn1 pc1, .int .i64 o.ins, .int .i64 o.move, .slice da1 dn1 dc1, .slice la1 ln1 lc1], .box b5 [.int .i64 pk, .int .i64 pv, .bool clear], .box b7 [.slice pa2 pn2 pc2, .int .i64 x.ins, .int .i64 x.move, .slice da2 dn2 dc2, .slice la2 ln2 lc2], .box b9 [.int .i64 sx.val, .bool sx.set], .box b10 cs3], [], []⟩) ?_ ?_
  · repeat' (first | (refine O_ef rfl (Ef_call (I := []) WideF.wide hch ⟨rfl, rfl, rfl, rfl, trivial⟩ rfl ?_); rintro v H3 I3 hle3 ⟨⟨cs3, x3, e3, rfl, hcs3, hsp3⟩, rfl⟩; obtain ⟨rfl, rfl⟩ := hsp.eq hsp3; obtain ⟨pa3, pn3, pc3, da3, dn3, dc3, la3, ln3, lc3, rfl, _, _, _⟩ := hcs3.ex) | refine O_nil ?_ | refine A_region ?_ | (show opsA _ _ _ _ _ _ _; first | refine O_ev WideF.wide rfl (Ev_pure rfl) rfl rfl ?_ | (show opsA _ _ _ _ (⟨_, .load _ _, _, _, _, _⟩ :: _) _ _; first | refine O_ev WideF.wide rfl (Ev_loadB1 (i := 1) rfl rfl rfl) rfl rfl ?_ | refine O_ev WideF.wide rfl (Ev_loadB (i := 0) rfl rfl rfl) rfl rfl ?_ | refine O_ev WideF.wide rfl (Ev_loadB (i := 3) rfl rfl rfl) rfl rfl ?_) | (show opsA _ _ _ _ (⟨_, .fieldAddr _ _ _, _, _, _, _⟩ :: _) _ _; refine O_ev WideF.wide rfl (Ev_fieldAddr rfl rfl rfl) rfl rfl ?_) | (show opsA _ _ _ _ (⟨_, .alloc _, _, _, _, _⟩ :: _) _ _; (refine O_ef rfl (Ef_alloc WideF.wide rfl ?_); intro b)) | (show opsA _ _ _ _ (⟨_, .store _ _ _, _, _, _, _⟩ :: _) _ _; refine O_ef rfl (Ef_storew WideF.wide rfl rfl rfl rfl rfl ?_))))
    exact Shift.to ⟨_, _, _, hle3, hcs3, rfl⟩ ⟨rfl, rfl, rfl, ⟨rfl, rfl, rfl, rfl, rfl, rfl, rfl, rfl, rfl, trivial⟩, Own.subi [1, 2, 3, 4, 0] (by decide) rfl rfl⟩
  rintro s ⟨H3, cs3, b10, hle3, hcs3, rfl⟩
  have hcs23 := hcs2.mono hle3
  have heq := fun Hx (hx : HLe H3 Hx) => EqualHead_fn (hcs23.mono hx) (hcs3.mono hx) (by omega)
  simp only [decide_true] at heq
  obtain ⟨pa3, pn3, pc3, da3, dn3, dc3, la3, ln3, lc3, rfl, _, _, _⟩ := hcs3.ex
  rcases hsp.err with rfl | ⟨rfl, hxn⟩
  · have hnow := hsp.now
    have hget := fun Hx (hx : HLe H3 Hx) => Get_fn (k := pk) ((h12.mono hle3).mono hx) hgx.inc (by unfold Head.mass at hmx hmass; omega)
    rw [hnow] at hget
    by_cases hrr : rev = 0 ∨ o.ins = rev
    · repeat' (first | (refine O_ef rfl (Ef_call (I := []) WideF.wide known_fn trivial rfl ?_); rintro v H4 I4 hle4 ⟨rfl, rfl⟩) | (refine O_ef rfl (Ef_callp WideF.wide (heq _ hle4) ⟨rfl, rfl, trivial⟩ rfl ?_)) | (refine O_ef rfl (Ef_callp WideF.wide (hget _ hle4) ⟨rfl, rfl, trivial⟩ rfl ?_)) | (refine O_ev WideF.wide rfl (Ev_nebs rfl rfl) rfl rfl ?_) | refine O_nil ?_ | refine A_seq ?_ | refine A_region ?_ | refine A_skip ?_ | refine A_ret ?_ | (show opsA _ _ _ _ _ _ _; first | (refine O_split rfl rfl (fun h => ?_) (fun h => ?_) <;> try (exfalso; omega)) | refine O_ev WideF.wide rfl (Ev_pure rfl) rfl rfl ?_ | (show opsA _ _ _ _ (⟨_, .load _ _, _, _, _, _⟩ :: _) _ _; first | refine O_ev WideF.wide rfl (Ev_loadB1 (i := 0) rfl rfl rfl) rfl rfl ?_ | refine O_ev WideF.wide rfl (Ev_loadB1 (i := 1) rfl rfl rfl) rfl rfl ?_ | refine O_ev WideF.wide rfl (Ev_loadB1 (i := 2) rfl rfl rfl) rfl rfl ?_ | refine O_ev WideF.wide rfl (Ev_loadB1 (i := 3) rfl rfl rfl) rfl rfl ?_ | refine O_ev WideF.wide rfl (Ev_loadB (i := 2) rfl rfl rfl) rfl rfl ?_ | refine O_ev WideF.wide rfl (Ev_loadB (i := 4) rfl rfl rfl) rfl rfl ?_) | (show opsA _ _ _ _ (⟨_, .fieldAddr _ _ _, _, _, _, _⟩ :: _) _ _; refine O_ev WideF.wide rfl (Ev_fieldAddr rfl rfl rfl) rfl rfl ?_) | (show opsA _ _ _ _ (⟨_, .unOp _ _ _, _, _, _, _⟩ :: _) _ _; refine O_ev WideF.wide rfl (Ev_notb rfl) rfl rfl ?_) | refine O_skip WideF.wide rfl rfl rfl ?_) | (show wpA _ _ _ (.cond _ _ _) _ _ _ _; first | (refine A_if rfl (fun h => ?_) (fun h => ?_) <;> try (exfalso; omega)) | refine A_iftrue rfl ?_))
      all_goals first
        | (exfalso; omega)
        | exact End_e (Ret1 rfl rfl) ⟨rfl, rfl⟩
    · have hr := not_or.1 hrr
      have ho1 : ∀ Hx, HLe H3 Hx → Fn Try.prog 19 [_] Hx [] fun v H' I' => (∃ cs, v = .tuple [.agg cs.toArray, .bool (decide (o.ins = 0))].toArray ∧ HeadH H' cs (decH (fun _ => false) (fun _ => true) o)) ∧ I' = [] := fun Hx hx => by
        have h := Original_fn ((hcs12.mono hle3).mono hx) hgood.inc (by omega)
        unfold DecideIs at h
        rwa [gone_orig, show (!decide (¬ o.ins = 0)) = decide (o.ins = 0) by simp] at h
      have ho2 : ∀ Hx, HLe H3 Hx → Fn Try.prog 19 [_] Hx [] fun v H' I' => (∃ cs, v = .tuple [.agg cs.toArray, .bool (decide (o.ins = 0))].toArray ∧ HeadH H' cs (decH (fun _ => false) (fun _ => true) o)) ∧ I' = [] := fun Hx hx => by
        have h := Original_fn (hcs23.mono hx) hgx.inc (by omega)
        unfold DecideIs at h
        rwa [gone_orig, hsp.orig hgood hr.1 hr.2, show (!decide (¬ x.ins = 0)) = decide (o.ins = 0) by rw [hsp.ins]; simp] at h
      have hmD := decH_mass (fun _ => false) (fun _ => true) o
      have hq2 : ∀ Hx cs cs', HeadH Hx cs (decH (fun _ => false) (fun _ => true) o) → HeadH Hx cs' (decH (fun _ => false) (fun _ => true) o) → FnP Try.prog 18 [.agg cs.toArray, .agg cs'.toArray] Hx (.bool true) := fun Hx cs cs' g g' => by
        have h := EqualHead_fn g g' (by unfold Head.mass at hmass hmD ⊢; omega)
        rwa [decide_eq_true rfl] at h
      repeat' (first | (refine O_ef rfl (Ef_call (I := []) WideF.wide known_fn trivial rfl ?_); rintro v H4 I4 hle4 ⟨rfl, rfl⟩) | (refine O_ef rfl (Ef_callp WideF.wide (heq _ hle4) ⟨rfl, rfl, trivial⟩ rfl ?_)) | (refine O_ef rfl (Ef_callp WideF.wide (hget _ hle4) ⟨rfl, rfl, trivial⟩ rfl ?_)) | (refine O_ev WideF.wide rfl (Ev_nebs rfl rfl) rfl rfl ?_) | (refine O_ev WideF.wide rfl (Ev_eqbs rfl rfl) rfl rfl ?_) | (refine O_ef rfl (Ef_call (I := []) WideF.wide (ho1 _ hle4) ⟨rfl, trivial⟩ rfl ?_); rintro v H5 I5 hle5 ⟨⟨cs5, rfl, hcs5⟩, rfl⟩; obtain ⟨pa5, pn5, pc5, da5, dn5, dc5, la5, ln5, lc5, rfl, _, _, _⟩ := hcs5.ex) | (refine O_ef rfl (Ef_call (I := []) WideF.wide (ho2 _ (hle4.trans hle5)) ⟨rfl, trivial⟩ rfl ?_); rintro v H6 I6 hle6 ⟨⟨cs6, rfl, hcs6⟩, rfl⟩; obtain ⟨pa6, pn6, pc6, da6, dn6, dc6, la6, ln6, lc6, rfl, _, _, _⟩ := hcs6.ex) | (refine O_ef rfl (Ef_callp WideF.wide (hq2 _ _ _ (hcs5.mono hle6) hcs6) ⟨rfl, rfl, trivial⟩ rfl ?_)) | refine O_nil ?_ | refine A_seq ?_ | refine A_region ?_ | refine A_skip ?_ | refine A_ret ?_ | (show opsA _ _ _ _ _ _ _; first | (refine O_split rfl rfl (fun h => ?_) (fun h => ?_) <;> try (exfalso; omega)) | refine O_ev WideF.wide rfl (Ev_pure rfl) rfl rfl ?_ | (show opsA _ _ _ _ (⟨_, .load _ _, _, _, _, _⟩ :: _) _ _; first | refine O_ev WideF.wide rfl (Ev_loadB1 (i := 0) rfl rfl rfl) rfl rfl ?_ | refine O_ev WideF.wide rfl (Ev_loadB1 (i := 1) rfl rfl rfl) rfl rfl ?_ | refine O_ev WideF.wide rfl (Ev_loadB1 (i := 2) rfl rfl rfl) rfl rfl ?_ | refine O_ev WideF.wide rfl (Ev_loadB1 (i := 3) rfl rfl rfl) rfl rfl ?_ | refine O_ev WideF.wide rfl (Ev_loadB (i := 0) rfl rfl rfl) rfl rfl ?_ | refine O_ev WideF.wide rfl (Ev_loadB (i := 1) rfl rfl rfl) rfl rfl ?_ | refine O_ev WideF.wide rfl (Ev_loadB (i := 2) rfl rfl rfl) rfl rfl ?_ | refine O_ev WideF.wide rfl (Ev_loadB (i := 3) rfl rfl rfl) rfl rfl ?_ | refine O_ev WideF.wide rfl (Ev_loadB (i := 4) rfl rfl rfl) rfl rfl ?_) | (show opsA _ _ _ _ (⟨_, .fieldAddr _ _ _, _, _, _, _⟩ :: _) _ _; refine O_ev WideF.wide rfl (Ev_fieldAddr rfl rfl rfl) rfl rfl ?_) | (show opsA _ _ _ _ (⟨_, .unOp _ _ _, _, _, _, _⟩ :: _) _ _; refine O_ev WideF.wide rfl (Ev_notb rfl) rfl rfl ?_) | (show opsA _ _ _ _ (⟨_, .alloc _, _, _, _, _⟩ :: _) _ _; (refine O_ef rfl (Ef_alloc WideF.wide rfl ?_); intro b)) | (show opsA _ _ _ _ (⟨_, .store _ _ _, _, _, _, _⟩ :: _) _ _; refine O_ef rfl (Ef_storew WideF.wide rfl rfl rfl rfl rfl ?_))) | (show wpA _ _ _ (.cond _ _ _) _ _ _ _; (refine A_if rfl (fun h => ?_) (fun h => ?_) <;> try (exfalso; omega))))
      all_goals first
        | (exfalso; omega)
        | exact End_e (Ret1 rfl rfl) ⟨rfl, rfl⟩
  · repeat' (first | (have hle34 := hle4; refine O_ef rfl (Ef_call (I := []) WideF.wide known_fn trivial rfl ?_); rintro v H5 I5 hle5 ⟨rfl, rfl⟩) | (refine O_ef rfl (Ef_call (I := []) WideF.wide known_fn trivial rfl ?_); rintro v H4 I4 hle4 ⟨rfl, rfl⟩) | (refine O_ef rfl (Ef_callp WideF.wide (heq _ (hle4.trans hle5)) ⟨rfl, rfl, trivial⟩ rfl ?_)) | (refine O_ef rfl (Ef_callp WideF.wide (heq _ hle4) ⟨rfl, rfl, trivial⟩ rfl ?_)) | refine O_nil ?_ | refine A_seq ?_ | refine A_region ?_ | refine A_ret ?_ | (show opsA _ _ _ _ _ _ _; first | (refine O_split rfl rfl (fun h => ?_) (fun h => ?_) <;> try (exfalso; omega)) | refine O_ev WideF.wide rfl (Ev_pure rfl) rfl rfl ?_ | (show opsA _ _ _ _ (⟨_, .load _ _, _, _, _, _⟩ :: _) _ _; first | refine O_ev WideF.wide rfl (Ev_loadB (i := 2) rfl rfl rfl) rfl rfl ?_ | refine O_ev WideF.wide rfl (Ev_loadB (i := 4) rfl rfl rfl) rfl rfl ?_) | (show opsA _ _ _ _ (⟨_, .unOp _ _ _, _, _, _, _⟩ :: _) _ _; refine O_ev WideF.wide rfl (Ev_notb rfl) rfl rfl ?_)) | (show wpA _ _ _ (.cond _ _ _) _ _ _ _; (refine A_if rfl (fun h => ?_) (fun h => ?_) <;> try (exfalso; omega))))
    all_goals first
      | (exfalso; omega)
      | exact End_e (Ret1 rfl rfl) ⟨rfl, rfl⟩
end Go.Proofs.Ythniohgeojenaaa
