/-
  mark.decide.
-/
import Derived.Test.YthniohgeojenaaaM8
namespace Go.Proofs.Ythniohgeojenaaa
open Go
set_option linter.unusedVariables false
set_option linter.unusedSimpArgs false
section
variable {F : Fence} {P : Program} {c : Ctx} {ops : List Oper} {K : SP}
/-- behind a region only this is known -/
theorem O_cutu {l : List Oper} {s : Sta} (J : SP) (h : opsA F P c ops l (Shift c J) s) (hk : ∀ s, J s → K s) : opsA F P c ops l K s := fun a w hs => by
  have := h a w hs
  refine (?_ : ∀ (l' : List Oper) a w, wpListIn F 0 P ops.toArray (contQ c (Shift c J) [] (fun _ => False)) l' a w → wpListIn F 0 P ops.toArray (contQ c K [] (fun _ => False)) l' a w) l a w this
  intro l'
  induction l' with
  | nil => intro a w h; obtain ⟨s', hs', q⟩ := h; obtain ⟨s'', hs'', q⟩ := q a w hs'; exact ⟨s'', hs'', hk _ q⟩
  | cons o r ih =>
    intro a w h
    simp only [wpListIn] at h ⊢
    split
    · rename_i hw
      rw [if_pos hw] at h
      refine Oper.wpIn_both (fun a w => ih a w) (fun e a w q => ?_) h
      cases e with
      | normal => obtain ⟨s', hs', q⟩ := q; obtain ⟨s'', hs'', q⟩ := q a w hs'; exact ⟨s'', hs'', hk _ q⟩
      | exit id => exact q
      | ret => exact q
      | goto l => exact q
      | panic ch => exact q
      | outgrown => exact q
    · rename_i hw
      rw [if_neg hw] at h
      exact ⟨h.1, ih _ _ h.2⟩
end
section
variable {P : Program} {fn : Func} {n : Nat} {e : Env} {H : Hp} {M L : Own} {D : List Deferred}
/-- results: a struct that lies in a variable, and one in a slot -/
theorem RetT2 {T k b i t t2 : Nat} {cs : List Value} {v2 : Value} [hT : TyC P T true k] (h : fn.results = #[.cell t T, .tmp t2]) (h1 : e.find t = some (.pointer (some ⟨b, 0, none⟩))) (hR : oget M i = some (.box b cs)) (hk : cs.length = k) (h2 : e.find t2 = some v2) : RetOk P fn ⟨n, e, H, M, L, D⟩ (.tuple [.agg cs.toArray, v2].toArray) := fun a w he hr => by
  obtain ⟨T', hb⟩ := hr _ (List.mem_append_left _ (oget_mem hR))
  have h3 := run_load_agg (P := P) (t := T) (w := w) (b := b) (o := 0) hk (fun j v hj => cell_of_heap hb (by simpa using hj))
  simp only [Instr.loadAt, Instr.sureAddr, Sem.run_bind, Sem.run_pure, Result.andThen_ok] at h3
  have e1 : (resOf a.tmps (.cell t T)).run P w = .ok (.agg cs.toArray) w := by simp [resOf, he _ _ h1, asAddr, h3]
  have e2 : (resOf a.tmps (.tmp t2)).run P w = .ok v2 w := by simp [resOf, he _ _ h2]
  rw [results_eq, h, Sem.run_bind, run_mapM2 e1 e2]; rfl
theorem RetT3 {T k b i t t2 t3 : Nat} {cs : List Value} {v2 v3 : Value} [hT : TyC P T true k] (h : fn.results = #[.cell t T, .tmp t2, .tmp t3]) (h1 : e.find t = some (.pointer (some ⟨b, 0, none⟩))) (hR : oget M i = some (.box b cs)) (hk : cs.length = k) (h2 : e.find t2 = some v2) (h3 : e.find t3 = some v3) : RetOk P fn ⟨n, e, H, M, L, D⟩ (.tuple [.agg cs.toArray, v2, v3].toArray) := fun a w he hr => by
  obtain ⟨T', hb⟩ := hr _ (List.mem_append_left _ (oget_mem hR))
  have h4 := run_load_agg (P := P) (t := T) (w := w) (b := b) (o := 0) hk (fun j v hj => cell_of_heap hb (by simpa using hj))
  simp only [Instr.loadAt, Instr.sureAddr, Sem.run_bind, Sem.run_pure, Result.andThen_ok] at h4
  have e1 : (resOf a.tmps (.cell t T)).run P w = .ok (.agg cs.toArray) w := by simp [resOf, he _ _ h1, asAddr, h4]
  have e2 : (resOf a.tmps (.tmp t2)).run P w = .ok v2 w := by simp [resOf, he _ _ h2]
  have e3 : (resOf a.tmps (.tmp t3)).run P w = .ok v3 w := by simp [resOf, he _ _ h3]
  rw [results_eq, h, Sem.run_bind, run_mapM3 e1 e2 e3]; rfl
end
attribute [local irreducible] wpA opsA drJ drQ drE Ef Ev Shift Fn
theorem pClone_fz {H : Hp} {a : Option Addr} {n cp : Nat} {l : List Prp} (hr : HRow H a n cp 2 (l.map prow)) (hl : n < 68719476736) : Fn Try.prog 57 [.slice a n cp] H [] fun v H' I' => (∃ a' n' c', v = .slice a' n' c' ∧ HRow H' a' n' c' 2 (l.map prow)) ∧ I' = [] := by
  refine (pClone_fn hr hl).shift ?_
  rintro c w v H' I' hw ⟨rfl, a', c', rfl, rfl⟩
  obtain ⟨H1, hle1, hr1, hw1⟩ := hw.freeze (prow_one _)
  exact ⟨H1, [], hw1, ⟨a', _, c', rfl, hr1⟩, rfl⟩
def insA (acc : Int → Bool) (q : Head) : Int := if decide (q.ins ≠ 0) && acc q.ins then 0 else q.ins
def movA (acc : Int → Bool) (q : Head) : Int := if decide (q.ins ≠ 0) && acc q.ins then 0 else q.move
def decJ (acc rej : Int → Bool) (q : Head) (b9 b4 : Nat) (da' : Option Addr) (dn' dc' : Nat) (dss : List (List Value)) (i : Nat) (H1 : Hp) (I1 : Own) : Prop :=
  ∃ (pa2 : Option Addr) (pn2 pc2 : Nat) (pr : List Prp) (la2 : Option Addr) (ln2 lc2 : Nat) (out : List Layr) (lss : List (List Value)), HRow H1 pa2 pn2 pc2 2 (pr.map prow) ∧ IncP pr ∧ pr.length ≤ q.props.length + i ∧ out.length ≤ i ∧ lss.length = ln2 ∧ lss = out.map lrow ∧
    decL acc rej q.props q.layers q.props [] = decL acc rej q.props (q.layers.drop i) pr out ∧ I1 = [.box b9 [.slice pa2 pn2 pc2, .int .i64 (insA acc q), .int .i64 (movA acc q), .slice da' dn' dc', .slice la2 ln2 lc2], .row (.slice da' dn' dc') 2 dss, .row (.slice la2 ln2 lc2) 4 lss, .box b4 [.slice none 0 0, .int .i64 0, .int .i64 0, .slice none 0 0, .slice none 0 0]]
abbrev stc (s : St) : List Value := [.int .i64 s.val, .bool s.set]
theorem stc_one (l : List St) : ∀ cs ∈ l.map stc, ∀ u ∈ cs, u.oneCell' = true := by
  intro cs hcs u hu
  obtain ⟨p, _, rfl⟩ := List.mem_map.1 hcs
  simp [stc] at hu
  rcases hu with rfl | rfl <;> rfl
abbrev rEnv (b2 b6 b7 b9 : Nat) (key : Int) (ga : Option Addr) (m gc : Nat) : Env := [(12, .int .i64 key), (13, .slice ga m gc), (9, ptr b9), (2, ptr b2), (6, ptr b6), (7, ptr b7)]
abbrev rOwn (acc : Int → Bool) (q : Head) (b9 b4 : Nat) (da' : Option Addr) (dn' dc' : Nat) (dss : List (List Value)) (pa2 : Option Addr) (pn2 pc2 : Nat) (la2 : Option Addr) (ln2 lc2 : Nat) (lss : List (List Value)) : Own :=
  [.box b9 [.slice pa2 pn2 pc2, .int .i64 (insA acc q), .int .i64 (movA acc q), .slice da' dn' dc', .slice la2 ln2 lc2], .row (.slice da' dn' dc') 2 dss, .row (.slice la2 ln2 lc2) 4 lss, .box b4 [.slice none 0 0, .int .i64 0, .int .i64 0, .slice none 0 0, .slice none 0 0]]
abbrev zHead : List Value := [.slice none 0 0, .int .i64 0, .int .i64 0, .slice none 0 0, .slice none 0 0]
abbrev dEnv (b2 b4 b6 b7 : Nat) : Env := [(2, ptr b2), (4, ptr b4), (5, .bool false), (6, ptr b6), (7, ptr b7)]
set_option maxRecDepth 100000 in
set_option maxHeartbeats 8000000 in
theorem decide_fn {H : Hp} {hcs : List Value} {q : Head} (hh : HeadH H hcs q) (hs : IncP q.props) (hl : q.mass < 1073741824) {vf : FuncId} {caps : List Value} {acc rej : Int → Bool} [hvf : FunC Try.prog vf] (hv : Verd vf caps H acc rej) :
    Fn Try.prog 47 [.agg hcs.toArray, fv vf caps] H [] fun v H' I' => (∃ cs', v = .tuple [.agg cs'.toArray, .bool (!goneB acc rej q)].toArray ∧ HeadH H' cs' (decH acc rej q)) ∧ I' = [] := by
  obtain ⟨pa, pn, pc, da, dn, dc, la, ln, lc, rfl, h1, h2, h3⟩ := hh.ex
  have l1 := h1.len
  have l2 := h2.len
  have l3 := h3.len
  simp only [List.length_map] at l1 l2 l3
  unfold Head.mass at hl
  refine Fn_ofM _ _ Try.func47 rfl Try.ntmps47 rfl fun c => ?_
  repeat' (first | refine O_nil ?_ | refine A_seq ?_ | refine A_region ?_ | (show opsA _ _ _ _ _ _ _; first | refine O_ev WideF.wide rfl (Ev_pure rfl) rfl rfl ?_ | (show opsA _ _ _ _ (⟨_, .alloc _, _, _, _, _⟩ :: _) _ _; (refine O_ef rfl (Ef_alloc WideF.wide rfl ?_); intro b)) | (show opsA _ _ _ _ (⟨_, .box _ _, _, _, _, _⟩ :: _) _ _; first | (refine O_ef rfl (Ef_box1 WideF.wide rfl rfl rfl ?_); intro b) | (refine O_ef rfl (Ef_boxa WideF.wide rfl rfl ?_); intro b))))
  rename_i b2 b3
  obtain ⟨b4, hb4⟩ : ∃ z, z = b := ⟨_, rfl⟩
  subst hb4
  refine O_f2 (O_freezeBox (by intro u hu; simp at hu; rcases hu with rfl | rfl | rfl | rfl | rfl <;> rfl) ?_)
  intro H1 hle1 hc2
  refine O_f1 (O_freezeBox (by intro u hu; simp at hu; subst hu; rfl) ?_)
  intro H2 hle2 hc3
  repeat' (first | (refine O_ev WideF.wide rfl (Ev_makeFunc (xs := []) (vs := []) (ys := [.tmp 3]) (us := [.pointer (some ⟨_, 0, none⟩)]) rfl rfl) rfl rfl ?_) | refine O_nil ?_ | refine A_seq ?_ | refine A_region ?_ | (show opsA _ _ _ _ _ _ _; first | (show opsA _ _ _ _ (⟨_, .fieldAddr _ _ _, _, _, _, _⟩ :: _) _ _; refine O_ev WideF.wide rfl (Ev_fieldAddr rfl rfl rfl) rfl rfl ?_) | (show opsA _ _ _ _ (⟨_, .alloc _, _, _, _, _⟩ :: _) _ _; (refine O_ef rfl (Ef_alloc WideF.wide rfl ?_); intro b)) | (show opsA _ _ _ _ (⟨_, .store _ _ _, _, _, _, _⟩ :: _) _ _; refine O_ef rfl (Ef_store1 WideF.wide rfl rfl rfl rfl rfl ?_))))
  rename_i b6
  obtain ⟨b7, hb7⟩ : ∃ z, z = b := ⟨_, rfl⟩
  subst hb7
  refine O_freezeBox (cs := [fv 78 [ptr b3]]) (by intro u hu; simp at hu; subst hu; rfl) ?_
  intro H3 hle3 hc7
  refine O_freezeBox (cs := [fv 77 [ptr b3]]) (by intro u hu; simp at hu; subst hu; rfl) ?_
  intro H4 hle4 hc6
  have hle : HLe H H4 := hle1.trans (hle2.trans (hle3.trans hle4))
  have hb3 : H4 b3 0 = some (fv vf caps) := hle4 _ _ _ (hle3 _ _ _ (hc3 0 _ rfl))
  have hb6 : H4 b6 0 = some (fv 77 [ptr b3]) := hc6 0 _ rfl
  have hb7 : H4 b7 0 = some (fv 78 [ptr b3]) := hle4 _ _ _ (hc7 0 _ rfl)
  have hv4 := hv.mono hle
  have hb2 : HCells H4 b2 0 [.slice pa pn pc, .int .i64 q.ins, .int .i64 q.move, .slice da dn dc, .slice la ln lc] := fun j v hj => hle4 _ _ _ (hle3 _ _ _ (hle2 _ _ _ (hc2 j v hj)))
  have hb21 : HCells H4 b2 (0 + 1) [.int .i64 q.ins, .int .i64 q.move, .slice da dn dc, .slice la ln lc] := fun j v hj => by have := hb2 (j + 1) v (by simpa using hj); rwa [Nat.add_assoc, Nat.add_comm 1 j]
  refine O_cutu (fun s => ∃ b8, s = ⟨162, (8, ptr b8) :: dEnv b2 b4 b6 b7, H4, [.box b8 [.int .i64 q.ins, .int .i64 q.move, .slice da dn dc, .slice la ln lc], .box b4 zHead], [], []⟩) ?_ ?_
  · repeat' (first | (refine O_ev WideF.wide rfl (Ev_loadH rfl hb21 rfl) rfl rfl ?_) | refine O_nil ?_ | (show opsA _ _ _ _ _ _ _; first | (show opsA _ _ _ _ (⟨_, .alloc _, _, _, _, _⟩ :: _) _ _; (refine O_ef rfl (Ef_alloc WideF.wide rfl ?_); intro b)) | (show opsA _ _ _ _ (⟨_, .store _ _ _, _, _, _, _⟩ :: _) _ _; refine O_ef rfl (Ef_storew WideF.wide rfl rfl rfl rfl rfl ?_))))
    exact Shift.to ⟨_, rfl⟩ ⟨rfl, rfl, rfl, ⟨rfl, rfl, rfl, rfl, rfl, rfl, trivial⟩, Own.subi [0, 1] (by decide) rfl rfl⟩
  rintro s ⟨b8, rfl⟩
  refine A_freezeBox (by intro u hu; simp at hu; rcases hu with rfl | rfl | rfl | rfl <;> rfl) ?_
  intro H5 hle5 hb8
  have hle0 : HLe H H5 := hle.trans hle5
  have hb3 : H5 b3 0 = some (fv vf caps) := hle5 _ _ _ hb3
  have hb6 : H5 b6 0 = some (fv 77 [ptr b3]) := hle5 _ _ _ hb6
  have hb7 : H5 b7 0 = some (fv 78 [ptr b3]) := hle5 _ _ _ hb7
  have hv5 := hv4.mono hle5
  have hb2 : HCells H5 b2 0 [.slice pa pn pc, .int .i64 q.ins, .int .i64 q.move, .slice da dn dc, .slice la ln lc] := fun j v hj => hle5 _ _ _ (hb2 j v hj)
  have h1 := h1.mono hle0
  have h2 := h2.mono hle0
  have h3 := h3.mono hle0
  have d1 := fun rev => dec1_fn hb3 hv5 rev
  have d2 := fun rev => dec2_fn hb3 hv5 rev
  have d3 := conDele_fn h2 (by omega) (fun d => dec3_fn hb3 hb6 hv5 d)
  refine A_seq (A_seq ?_)
  refine A_cutu (fun s => s = ⟨162, (40, .bool (goneB acc rej q)) :: (8, ptr b8) :: dEnv b2 b4 b6 b7, H5, [.box b4 zHead], [], []⟩) ?_ ?_
  · by_cases hins : q.ins = 0
    · have hg : goneB acc rej q = q.dels.any (fun d => acc d.rev) := by simp [goneB, hins]
      rw [hg]
      repeat' (first | (refine O_ev WideF.wide rfl (Ev_makeFunc (xs := []) (vs := []) (ys := [.tmp 6]) (us := [.pointer (some ⟨_, 0, none⟩)]) rfl rfl) rfl rfl ?_) | (refine O_ev WideF.wide rfl (Ev_loadH1 rfl (hb8 0 _ rfl)) rfl rfl ?_) | (refine O_ev WideF.wide rfl (Ev_loadH1 rfl (hb8 2 _ rfl)) rfl rfl ?_) | (refine O_ef rfl (Ef_callp WideF.wide d3 ⟨rfl, rfl, trivial⟩ rfl ?_)) | refine O_nil ?_ | refine A_region ?_ | (show opsA _ _ _ _ _ _ _; first | (refine O_split rfl rfl (fun h => ?_) (fun h => ?_) <;> try (exfalso; omega)) | refine O_ev WideF.wide rfl (Ev_pure rfl) rfl rfl ?_ | (show opsA _ _ _ _ (⟨_, .fieldAddr _ _ _, _, _, _, _⟩ :: _) _ _; refine O_ev WideF.wide rfl (Ev_fieldAddr rfl rfl rfl) rfl rfl ?_) | refine O_skip WideF.wide rfl rfl rfl ?_))
      exact Shift.to rfl ⟨rfl, rfl, rfl, ⟨rfl, rfl, rfl, rfl, rfl, rfl, rfl, trivial⟩, Own.subi [0] (by decide) rfl rfl⟩
    · have d2i := d2 q.ins
      cases hr : rej q.ins with
      | false =>
        rw [hr] at d2i
        have hg : goneB acc rej q = q.dels.any (fun d => acc d.rev) := by simp [goneB, hins, hr]
        rw [hg]
        repeat' (first | (refine O_ev WideF.wide rfl (Ev_makeFunc (xs := []) (vs := []) (ys := [.tmp 6]) (us := [.pointer (some ⟨_, 0, none⟩)]) rfl rfl) rfl rfl ?_) | (refine O_ev WideF.wide rfl (Ev_loadH1 rfl (hb8 0 _ rfl)) rfl rfl ?_) | (refine O_ev WideF.wide rfl (Ev_loadH1 rfl (hb8 2 _ rfl)) rfl rfl ?_) | (refine O_ev WideF.wide rfl (Ev_loadH1 rfl hb7) rfl rfl ?_) | (refine O_ef rfl (Ef_callp WideF.wide d3 ⟨rfl, rfl, trivial⟩ rfl ?_)) | (refine O_ef rfl (Ef_callcp (args := [_]) WideF.wide d2i rfl ⟨rfl, trivial⟩ rfl ?_)) | refine O_nil ?_ | refine A_region ?_ | (show opsA _ _ _ _ _ _ _; first | (refine O_split rfl rfl (fun h => ?_) (fun h => ?_) <;> try (exfalso; omega)) | refine O_ev WideF.wide rfl (Ev_pure rfl) rfl rfl ?_ | (show opsA _ _ _ _ (⟨_, .fieldAddr _ _ _, _, _, _, _⟩ :: _) _ _; refine O_ev WideF.wide rfl (Ev_fieldAddr rfl rfl rfl) rfl rfl ?_)))
        exact Shift.to rfl ⟨rfl, rfl, rfl, ⟨rfl, rfl, rfl, rfl, rfl, rfl, rfl, trivial⟩, Own.subi [0] (by decide) rfl rfl⟩
      | true =>
        rw [hr] at d2i
        have hg : goneB acc rej q = true := by simp [goneB, hins, hr]
        rw [hg]
        repeat' (first | (refine O_ev WideF.wide rfl (Ev_loadH1 rfl (hb8 0 _ rfl)) rfl rfl ?_) | (refine O_ev WideF.wide rfl (Ev_loadH1 rfl hb7) rfl rfl ?_) | (refine O_ef rfl (Ef_callcp (args := [_]) WideF.wide d2i rfl ⟨rfl, trivial⟩ rfl ?_)) | refine O_nil ?_ | refine A_region ?_ | (show opsA _ _ _ _ _ _ _; first | (refine O_split rfl rfl (fun h => ?_) (fun h => ?_) <;> try (exfalso; omega)) | refine O_ev WideF.wide rfl (Ev_pure rfl) rfl rfl ?_ | (show opsA _ _ _ _ (⟨_, .fieldAddr _ _ _, _, _, _, _⟩ :: _) _ _; refine O_ev WideF.wide rfl (Ev_fieldAddr rfl rfl rfl) rfl rfl ?_) | refine O_skip WideF.wide rfl rfl rfl ?_))
        exact Shift.to rfl ⟨rfl, rfl, rfl, ⟨rfl, rfl, rfl, rfl, rfl, rfl, rfl, trivial⟩, Own.subi [0] (by decide) rfl rfl⟩
  rintro s rfl
  refine A_ifb rfl (fun hg => ?_) (fun hg => ?_)
  · repeat' (first | refine O_nil ?_ | refine A_seq ?_ | refine A_region ?_ | refine A_ret ?_ | (show opsA _ _ _ _ _ _ _; first | refine O_ev WideF.wide rfl (Ev_pure rfl) rfl rfl ?_ | (show opsA _ _ _ _ (⟨_, .build _ _, _, _, _, _⟩ :: _) _ _; refine O_ev WideF.wide rfl (Ev_build (vs := []) trivial rfl) rfl rfl ?_) | (show opsA _ _ _ _ (⟨_, .store _ _ _, _, _, _, _⟩ :: _) _ _; refine O_ef rfl (Ef_storew WideF.wide rfl rfl rfl rfl rfl ?_))))
    refine EndM_of ?_
    refine End_e (RetT2 rfl rfl (i := 0) rfl rfl rfl) ?_
    rw [hg]
    refine ⟨⟨zHead, rfl, ?_⟩, rfl⟩
    unfold decH; rw [if_pos hg]
    exact ⟨⟨none, 0, 0, none, 0, 0, none, 0, 0, rfl, HRow.nil' _ _, HRow.nil' _ _, HRow.nil' _ _⟩⟩
  have no : (goneB acc rej q) = false := hg
  repeat' (first | refine A_seq ?_ | refine A_skip ?_)
  refine A_cutu (fun s => ∃ (b9 : Nat) (H6 : Hp) (pa' : Option Addr) (pn' pc' : Nat), HLe H5 H6 ∧ HRow H6 pa' pn' pc' 2 (q.props.map prow) ∧ s = ⟨162, (9, ptr b9) :: (8, ptr b8) :: dEnv b2 b4 b6 b7, H6, [.box b9 [.slice pa' pn' pc', .int .i64 q.ins, .int .i64 q.move, .slice none 0 0, .slice none 0 0], .box b4 zHead], [], []⟩) ?_ ?_
  · (refine A_drawi WideF.wide (.q 0 (.q 1 (.q 3 (.q 4 (.q 5 (.q 6 (.q 7 (.f 2 (.p 8 (.e 9 (.r (.e 10 (.done []))))) 9 (.e 2 (.q 8 (.r (.e 10 (.done []))))))))))))) [10] [] [0] (by decide +kernel) (by decide) rfl ?_; simp only [Own.picks, Own.rget, List.cons_append, List.nil_append, List.append_nil])
    repeat' (first | (refine D_ev rfl (Ev_loadH1 rfl (hb8 0 _ rfl)) rfl rfl ?_) | (refine D_ev rfl (Ev_loadH1 rfl (hb8 1 _ rfl)) rfl rfl ?_) | (refine D_ev rfl (Ev_loadH1 rfl (hb2 0 _ rfl)) rfl rfl ?_) | (refine E_ef rfl (Ef_call (I := []) WideF.wide (pClone_fz h1 (by omega)) ⟨rfl, trivial⟩ rfl ?_); rintro v H6 I6 hle6 ⟨⟨pa', pn', pc', rfl, hr6⟩, rfl⟩; refine ⟨⟨hle6, rfl⟩, ?_⟩) | refine O_nil ?_ | (show drJ _ _ _ _ _ _ _ (.q _ _) _; refine D_q rfl ?_) | (show drJ _ _ _ _ _ _ _ (.e _ _) _; refine D_e rfl ?_) | (show drJ _ _ _ _ _ _ _ (.f _ _ _ _) _; refine D_f rfl rfl ?_ ?_) | (show drJ _ _ _ _ _ _ _ (.r _) _; refine D_r ?_; simp only [List.cons_append, List.nil_append]) | (show drJ _ _ _ _ _ _ _ (.done _) _; refine D_done ?_; simp only [List.cons_append, List.nil_append]) | (show drQ _ _ _ _ _ _; first | (show drQ _ _ _ ⟨_, .fieldAddr _ _ _, _, _, _, _⟩ _ _; refine D_ev rfl (Ev_fieldAddr rfl rfl rfl) rfl rfl ?_) | (show drQ _ _ _ ⟨_, .build _ _, _, _, _, _⟩ _ _; refine D_ev rfl (Ev_build (vs := [(_, _), (_, _)]) ⟨rfl, rfl, rfl, rfl, trivial⟩ rfl) rfl rfl ?_)) | (show drJ _ _ _ _ _ _ _ (.p _ _) _; refine D_p rfl ?_) | (show drP _ _ _ _ _ _; (show drP _ _ _ ⟨_, .build _ _, _, _, _, _⟩ _ _; refine D_pv rfl (Ev_build (vs := [(_, _), (_, _)]) ⟨rfl, rfl, rfl, rfl, trivial⟩ rfl) rfl rfl ?_)) | (show drE _ _ _ _ _ _ _; first | (show drE _ _ _ _ ⟨_, .alloc _, _, _, _, _⟩ _ _; (refine E_ef rfl (Ef_alloc WideF.wide rfl ?_); intro b; refine ⟨Grow.same rfl rfl, ?_⟩)) | (show drE _ _ _ _ ⟨_, .store _ _ _, _, _, _, _⟩ _ _; (refine E_ef rfl (Ef_storew WideF.wide rfl rfl rfl rfl rfl ?_); refine ⟨Grow.same rfl rfl, ?_⟩))))
    all_goals exact Shift.to ⟨_, _, pa', pn', pc', hle6, hr6, rfl⟩ ⟨rfl, rfl, rfl, ⟨rfl, rfl, rfl, rfl, rfl, rfl, rfl, trivial⟩, Own.subi [0, 1] (by decide) rfl rfl⟩
  rintro s ⟨b9, H6, pa', pn', pc', hle6, hr6, rfl⟩
  have hle06 : HLe H H6 := hle0.trans hle6
  have hb3 : H6 b3 0 = some (fv vf caps) := hle6 _ _ _ hb3
  have hb6 : H6 b6 0 = some (fv 77 [ptr b3]) := hle6 _ _ _ hb6
  have hb7 : H6 b7 0 = some (fv 78 [ptr b3]) := hle6 _ _ _ hb7
  have hv6 := hv5.mono hle6
  have hb2 : HCells H6 b2 0 [.slice pa pn pc, .int .i64 q.ins, .int .i64 q.move, .slice da dn dc, .slice la ln lc] := fun j v hj => hle6 _ _ _ (hb2 j v hj)
  have hb8 : HCells H6 b8 0 [.int .i64 q.ins, .int .i64 q.move, .slice da dn dc, .slice la ln lc] := fun j v hj => hle6 _ _ _ (hb8 j v hj)
  have h1 := h1.mono hle6
  have h2 := h2.mono hle6
  have h3 := h3.mono hle6
  have d1 := fun rev => dec1_fn hb3 hv6 rev
  have d2 := fun rev => dec2_fn hb3 hv6 rev
  refine A_seq ?_
  refine A_cutu (fun s => s = ⟨162, (9, ptr b9) :: (8, ptr b8) :: dEnv b2 b4 b6 b7, H6, [.box b9 [.slice pa' pn' pc', .int .i64 (insA acc q), .int .i64 (movA acc q), .slice none 0 0, .slice none 0 0], .box b4 zHead], [], []⟩) ?_ ?_
  · by_cases hins : q.ins = 0
    · have e1 : insA acc q = q.ins := by simp [insA, hins]
      have e2 : movA acc q = q.move := by simp [movA, hins]
      rw [e1, e2]
      repeat' (first | (refine O_ev WideF.wide rfl (Ev_loadH1 rfl (hb8 0 _ rfl)) rfl rfl ?_) | refine O_nil ?_ | refine A_seq ?_ | refine A_region ?_ | refine A_skip ?_ | (show opsA _ _ _ _ _ _ _; first | (refine O_split rfl rfl (fun h => ?_) (fun h => ?_) <;> try (exfalso; omega)) | refine O_ev WideF.wide rfl (Ev_pure rfl) rfl rfl ?_ | (show opsA _ _ _ _ (⟨_, .fieldAddr _ _ _, _, _, _, _⟩ :: _) _ _; refine O_ev WideF.wide rfl (Ev_fieldAddr rfl rfl rfl) rfl rfl ?_) | refine O_skip WideF.wide rfl rfl rfl ?_) | (show wpA _ _ _ (.cond _ _ _) _ _ _ _; refine A_iffalse rfl ?_))
      exact Shift.to rfl ⟨rfl, rfl, rfl, ⟨rfl, rfl, rfl, rfl, rfl, rfl, rfl, trivial⟩, Own.subi [0, 1] (by decide) rfl rfl⟩
    · have d1i := d1 q.ins
      cases hr : acc q.ins with
      | false =>
        rw [hr] at d1i
        have e1 : insA acc q = q.ins := by simp [insA, hr]
        have e2 : movA acc q = q.move := by simp [movA, hr]
        rw [e1, e2]
        repeat' (first | (refine O_ev WideF.wide rfl (Ev_loadH1 rfl (hb8 0 _ rfl)) rfl rfl ?_) | (refine O_ev WideF.wide rfl (Ev_loadH1 rfl hb6) rfl rfl ?_) | (refine O_ef rfl (Ef_callcp (args := [_]) WideF.wide d1i rfl ⟨rfl, trivial⟩ rfl ?_)) | refine O_nil ?_ | refine A_seq ?_ | refine A_region ?_ | refine A_skip ?_ | (show opsA _ _ _ _ _ _ _; first | (refine O_split rfl rfl (fun h => ?_) (fun h => ?_) <;> try (exfalso; omega)) | refine O_ev WideF.wide rfl (Ev_pure rfl) rfl rfl ?_ | (show opsA _ _ _ _ (⟨_, .fieldAddr _ _ _, _, _, _, _⟩ :: _) _ _; refine O_ev WideF.wide rfl (Ev_fieldAddr rfl rfl rfl) rfl rfl ?_)) | (show wpA _ _ _ (.cond _ _ _) _ _ _ _; refine A_iffalse rfl ?_))
        exact Shift.to rfl ⟨rfl, rfl, rfl, ⟨rfl, rfl, rfl, rfl, rfl, rfl, rfl, trivial⟩, Own.subi [0, 1] (by decide) rfl rfl⟩
      | true =>
        rw [hr] at d1i
        have e1 : insA acc q = 0 := by simp [insA, hr, hins]
        have e2 : movA acc q = 0 := by simp [movA, hr, hins]
        rw [e1, e2]
        repeat' (first | (refine O_ev WideF.wide rfl (Ev_loadH1 rfl (hb8 0 _ rfl)) rfl rfl ?_) | (refine O_ev WideF.wide rfl (Ev_loadH1 rfl hb6) rfl rfl ?_) | (refine O_ef rfl (Ef_callcp (args := [_]) WideF.wide d1i rfl ⟨rfl, trivial⟩ rfl ?_)) | refine O_nil ?_ | refine A_seq ?_ | refine A_region ?_ | (show opsA _ _ _ _ _ _ _; first | (refine O_split rfl rfl (fun h => ?_) (fun h => ?_) <;> try (exfalso; omega)) | refine O_ev WideF.wide rfl (Ev_pure rfl) rfl rfl ?_ | (show opsA _ _ _ _ (⟨_, .fieldAddr _ _ _, _, _, _, _⟩ :: _) _ _; refine O_ev WideF.wide rfl (Ev_fieldAddr rfl rfl rfl) rfl rfl ?_) | (show opsA _ _ _ _ (⟨_, .store _ _ _, _, _, _, _⟩ :: _) _ _; refine O_ef rfl (Ef_store1 WideF.wide rfl rfl rfl rfl rfl ?_))) | (show wpA _ _ _ (.cond _ _ _) _ _ _ _; refine A_iftrue rfl ?_))
        exact Shift.to rfl ⟨rfl, rfl, rfl, ⟨rfl, rfl, rfl, rfl, rfl, rfl, rfl, trivial⟩, Own.subi [0, 1] (by decide) rfl rfl⟩
  rintro s rfl
  refine A_nilrow 2 ?_
  refine A_nilrow 4 ?_
  repeat' (first | (refine O_ev WideF.wide rfl (Ev_loadH1 rfl (hb8 2 _ rfl)) rfl rfl ?_) | refine O_nil ?_ | refine A_seq ?_ | refine A_region ?_ | refine A_block ?_ | (show opsA _ _ _ _ _ _ _; first | refine O_ev WideF.wide rfl (Ev_pure rfl) rfl rfl ?_ | (show opsA _ _ _ _ (⟨_, .fieldAddr _ _ _, _, _, _, _⟩ :: _) _ _; refine O_ev WideF.wide rfl (Ev_fieldAddr rfl rfl rfl) rfl rfl ?_) | (show opsA _ _ _ _ (⟨_, .call _, _, _, _, _⟩ :: _) _ _; refine O_ev WideF.wide rfl (Ev_llen rfl) rfl rfl ?_)))
  refine A_loopu (fun m s => ∃ (i : Nat) (da' : Option Addr) (dn' dc' : Nat) (dss : List (List Value)), m = dn - i ∧ i ≤ dn ∧ dss.length = dn' ∧ dn' ≤ i ∧ dss = ((q.dels.take i).filter (fun d => !rej d.rev)).map drow ∧ s = ⟨162, (65, .slice da dn dc) :: (66, .int .i64 dn) :: (67, .int .i64 i) :: (9, ptr b9) :: dEnv b2 b4 b6 b7, H6, [.box b9 [.slice pa' pn' pc', .int .i64 (insA acc q), .int .i64 (movA acc q), .slice da' dn' dc', .slice none 0 0], .row (.slice da' dn' dc') 2 dss, .row (.slice none 0 0) 4 [], .box b4 zHead], [], []⟩) ?_ ?_
  · exact Shift.to ⟨_, 0, none, 0, 0, [], rfl, by omega, rfl, by omega, by simp, rfl⟩ ⟨rfl, rfl, rfl, ⟨rfl, rfl, rfl, rfl, rfl, rfl, rfl, rfl, rfl, trivial⟩, Own.subi [2, 1, 0, 3] (by decide) rfl rfl⟩
  · rintro m s ⟨i, da', dn', dc', dss, rfl, hi, hdl, hdi, hds, rfl⟩
    by_cases hlt : i < dn
    · obtain ⟨b', o, y, rfl, hyi, hc⟩ := h2.atm i hlt
      have hcy := hc
      unfold drow at hcy
      have d2i := d2 y.rev
      cases hr : rej y.rev with
      | true =>
        rw [hr] at d2i
        repeat' (first | (refine O_ev WideF.wide rfl (Ev_loadH rfl hcy rfl) rfl rfl ?_) | (refine O_ev WideF.wide rfl (Ev_loadH1 rfl hb7) rfl rfl ?_) | (refine O_ef rfl (Ef_callcp (args := [_]) WideF.wide d2i rfl ⟨rfl, trivial⟩ rfl ?_)) | refine O_nil ?_ | refine A_seq ?_ | refine A_region ?_ | refine A_skip ?_ | refine A_block ?_ | (show opsA _ _ _ _ _ _ _; first | refine O_ev WideF.wide rfl (Ev_pure rfl) rfl rfl ?_ | (show opsA _ _ _ _ (⟨_, .load _ _, _, _, _, _⟩ :: _) _ _; refine O_ev WideF.wide rfl (Ev_loadB1 (i := 0) rfl rfl rfl) rfl rfl ?_) | (show opsA _ _ _ _ (⟨_, .indexAddr _ _ _, _, _, _, _⟩ :: _) _ _; refine O_ev WideF.wide rfl (Ev_indexAddr rfl rfl (by omega) (by omega)) rfl rfl ?_) | (show opsA _ _ _ _ (⟨_, .fieldAddr _ _ _, _, _, _, _⟩ :: _) _ _; refine O_ev WideF.wide rfl (Ev_fieldAddr rfl rfl rfl) rfl rfl ?_) | (show opsA _ _ _ _ (⟨_, .binOp _ _ _ _ _, _, _, _, _⟩ :: _) _ _; refine O_ev WideF.wide rfl (Ev_add rfl rfl (wi64 (by omega))) rfl rfl ?_) | (show opsA _ _ _ _ (⟨_, .unOp _ _ _, _, _, _, _⟩ :: _) _ _; refine O_ev WideF.wide rfl (Ev_notb rfl) rfl rfl ?_) | (show opsA _ _ _ _ (⟨_, .alloc _, _, _, _, _⟩ :: _) _ _; (refine O_ef rfl (Ef_alloc WideF.wide rfl ?_); intro b)) | (show opsA _ _ _ _ (⟨_, .store _ _ _, _, _, _, _⟩ :: _) _ _; refine O_ef rfl (Ef_storew WideF.wide rfl rfl rfl rfl rfl ?_))) | (show wpA _ _ _ (.cond _ _ _) _ _ _ _; first | (refine A_if rfl (fun h => ?_) (fun h => ?_) <;> try (exfalso; omega)) | refine A_iffalse rfl ?_))
        refine Shift.to ⟨_, ?_, i + 1, da', dn', dc', dss, rfl, by omega, hdl, by omega, ?_, rfl⟩ ⟨rfl, rfl, rfl, ⟨rfl, rfl, rfl, rfl, rfl, rfl, rfl, rfl, rfl, trivial⟩, Own.subi [1, 2, 3, 4] (by decide) rfl rfl⟩
        · omega
        · rw [take_get hyi, List.filter_append, hds]; simp [hr]
      | false =>
        rw [hr] at d2i
        repeat' (first | (refine O_ev WideF.wide rfl (Ev_loadH rfl hcy rfl) rfl rfl ?_) | (refine O_ev WideF.wide rfl (Ev_loadH1 rfl hb7) rfl rfl ?_) | (refine O_ef rfl (Ef_callcp (args := [_]) WideF.wide d2i rfl ⟨rfl, trivial⟩ rfl ?_)) | refine O_nil ?_ | refine A_seq ?_ | refine A_region ?_ | refine A_skip ?_ | refine A_block ?_ | (show opsA _ _ _ _ _ _ _; first | refine O_ev WideF.wide rfl (Ev_pure rfl) rfl rfl ?_ | (show opsA _ _ _ _ (⟨_, .load _ _, _, _, _, _⟩ :: _) _ _; first | refine O_ev WideF.wide rfl (Ev_loadB1 (i := 0) rfl rfl rfl) rfl rfl ?_ | refine O_ev WideF.wide rfl (Ev_loadB1 (i := 1) rfl rfl rfl) rfl rfl ?_ | refine O_ev WideF.wide rfl (Ev_loadB (i := 0) rfl rfl rfl) rfl rfl ?_) | (show opsA _ _ _ _ (⟨_, .indexAddr _ _ _, _, _, _, _⟩ :: _) _ _; refine O_ev WideF.wide rfl (Ev_indexAddr rfl rfl (by omega) (by omega)) rfl rfl ?_) | (show opsA _ _ _ _ (⟨_, .fieldAddr _ _ _, _, _, _, _⟩ :: _) _ _; refine O_ev WideF.wide rfl (Ev_fieldAddr rfl rfl rfl) rfl rfl ?_) | (show opsA _ _ _ _ (⟨_, .call _, _, _, _, _⟩ :: _) _ _; (refine O_f3 (O_ef rfl (Ef_appendR WideF.wide rfl rfl rfl rfl rfl (by simp; omega) (by simp; omega) rfl ?_)); intro a cp)) | (show opsA _ _ _ _ (⟨_, .buildSlice _ _ _, _, _, _, _⟩ :: _) _ _; (refine O_ef rfl (Ef_build1a WideF.wide rfl rfl rfl rfl rfl ?_); intro b)) | (show opsA _ _ _ _ (⟨_, .binOp _ _ _ _ _, _, _, _, _⟩ :: _) _ _; refine O_ev WideF.wide rfl (Ev_add rfl rfl (wi64 (by omega))) rfl rfl ?_) | (show opsA _ _ _ _ (⟨_, .unOp _ _ _, _, _, _, _⟩ :: _) _ _; refine O_ev WideF.wide rfl (Ev_notb rfl) rfl rfl ?_) | (show opsA _ _ _ _ (⟨_, .alloc _, _, _, _, _⟩ :: _) _ _; (refine O_ef rfl (Ef_alloc WideF.wide rfl ?_); intro b)) | (show opsA _ _ _ _ (⟨_, .store _ _ _, _, _, _, _⟩ :: _) _ _; first | refine O_ef rfl (Ef_storew WideF.wide rfl rfl rfl rfl rfl ?_) | refine O_f2 (O_ef rfl (Ef_store1 WideF.wide rfl rfl rfl rfl rfl ?_)))) | (show wpA _ _ _ (.cond _ _ _) _ _ _ _; first | (refine A_if rfl (fun h => ?_) (fun h => ?_) <;> try (exfalso; omega)) | refine A_iftrue rfl ?_))
        refine Shift.to ⟨_, ?_, i + 1, _, _, _, dss ++ [drow y], rfl, by omega, rfl, ?_, ?_, rfl⟩ ⟨rfl, rfl, rfl, ⟨rfl, rfl, rfl, rfl, rfl, rfl, rfl, rfl, rfl, trivial⟩, Own.subi [0, 1, 3, 4] (by decide) rfl rfl⟩
        · omega
        · simp; omega
        · rw [take_get hyi, List.filter_append, hds]; simp [hr]
    · have hin : dn = i := by omega
      subst hin
      rw [List.take_of_length_le (by omega)] at hds
      have hh6 : HeadH H6 [.slice pa pn pc, .int .i64 q.ins, .int .i64 q.move, .slice da dn dc, .slice la ln lc] q := ⟨⟨pa, pn, pc, da, dn, dc, la, ln, lc, rfl, h1, h2, h3⟩⟩
      repeat' (first | (refine O_ef rfl (Ef_call (I := []) WideF.wide (groups_fn hh6) ⟨rfl, trivial⟩ rfl ?_); rintro v H7 I7 hle7 ⟨⟨bi, rfl, hbi⟩, rfl⟩) | refine O_nil ?_ | refine A_seq ?_ | refine A_region ?_ | refine A_block ?_ | (show opsA _ _ _ _ _ _ _; first | refine O_ev WideF.wide rfl (Ev_pure rfl) rfl rfl ?_ | (show opsA _ _ _ _ (⟨_, .load _ _, _, _, _, _⟩ :: _) _ _; refine O_ev WideF.wide rfl (Ev_loadH rfl (by assumption) (by rfl)) rfl rfl ?_)) | (show wpA _ _ _ (.exit _) _ _ _ _; refine A_exit rfl ?_) | (show wpA _ _ _ (.cond _ _ _) _ _ _ _; (refine A_if rfl (fun h => ?_) (fun h => ?_) <;> try (exfalso; omega))))
      refine A_sub (s' := ⟨162, (86, groupsV bi) :: (9, ptr b9) :: dEnv b2 b4 b6 b7, H7, [.box b9 [.slice pa' pn' pc', .int .i64 (insA acc q), .int .i64 (movA acc q), .slice da' dn' dc', .slice none 0 0], .row (.slice da' dn' dc') 2 dss, .row (.slice none 0 0) 4 [], .box b4 zHead], [], []⟩) ⟨rfl, rfl, rfl, ⟨rfl, rfl, rfl, rfl, rfl, rfl, rfl, trivial⟩, Own.subi [0, 1, 2, 3] (by decide) rfl rfl⟩ ?_
      refine A_rangeFunc WideF.wide rfl (cap := [.pointer (some ⟨bi, 0, none⟩)]) (ps := [87, 88]) rfl ?_
      intro dd lo r hrr hps has hbo hsn he
      refine ⟨_, groups1_fn (h3.mono hle7) (hbi 4 _ rfl) (by omega) (by rw [hps]; rfl) (decJ acc rej q b9 b4 da' dn' dc' dss) (fun _ _ _ => False) ⟨pa', pn', pc', q.props, none, 0, 0, [], [], hr6.mono hle7, hs, by omega, by simp, rfl, rfl, by simp, rfl⟩ ?_, ?_⟩
      · rintro i m y ga gc H8 I8 hle8 ⟨pa2, pn2, pc2, pr, la2, ln2, lc2, out, lss, hpr, hinc, hprl, hout, hln2, hls, hdec, rfl⟩ hyi hgm h1m him hgr
        have hx8 : HLe H6 H8 := hle7.trans hle8
        have hb6 : H8 b6 0 = some (fv 77 [ptr b3]) := hx8 _ _ _ hb6
        have hb7 : H8 b7 0 = some (fv 78 [ptr b3]) := hx8 _ _ _ hb7
        have hb2 : HCells H8 b2 0 [.slice pa pn pc, .int .i64 q.ins, .int .i64 q.move, .slice da dn dc, .slice la ln lc] := fun j v hj => hx8 _ _ _ (hb2 j v hj)
        have d1 := fun rev => dec1_fn (hx8 _ _ _ hb3) (hv6.mono hx8) rev
        have d2 := fun rev => dec2_fn (hx8 _ _ _ hb3) (hv6.mono hx8) rev
        have hh8 : HeadH H8 [.slice pa pn pc, .int .i64 q.ins, .int .i64 q.move, .slice da dn dc, .slice la ln lc] q := ⟨⟨pa, pn, pc, da, dn, dc, la, ln, lc, rfl, h1.mono hx8, h2.mono hx8, h3.mono hx8⟩⟩
        refine Round_of [] hrr he hps has hbo hsn rfl ?_
        clear has hbo
        intro F hF c'
        obtain ⟨g, hg0⟩ : ∃ g, g = (q.layers.drop i).take m := ⟨_, rfl⟩
        rw [← hg0] at hgr
        have hgl : g.length = m := by have := hgr.len; simpa using this
        repeat' (first | refine O_nil ?_ | refine A_seq ?_ | refine A_region ?_ | (show opsA _ _ _ _ _ _ _; refine O_ev hF rfl (Ev_pure rfl) rfl rfl ?_))
        refine ⟨rfl, ?_⟩
        repeat' (first | refine O_nil ?_ | refine A_seq ?_ | refine A_region ?_ | refine A_block ?_ | (show opsA _ _ _ _ _ _ _; first | refine O_ev hF rfl (Ev_pure rfl) rfl rfl ?_ | (show opsA _ _ _ _ (⟨_, .call _, _, _, _, _⟩ :: _) _ _; refine O_ev hF rfl (Ev_llen rfl) rfl rfl ?_)))
        refine A_nilrow 2 ?_
        refine A_loopu (fun mm s => ∃ (k : Nat) (sa : Option Addr) (sn sc : Nat) (sss : List (List Value)), mm = m - k ∧ k ≤ m ∧ sss.length = sn ∧ sn ≤ k ∧ sss = (g.take k).map (fun z => stc z.st) ∧ s = ⟨162, (91, .int .i64 k) :: (90, .int .i64 m) :: (89, .slice ga m gc) :: (14, .slice sa sn sc) :: rEnv b2 b6 b7 b9 y.key ga m gc, H8, .row (.slice sa sn sc) 2 sss :: rOwn acc q b9 b4 da' dn' dc' dss pa2 pn2 pc2 la2 ln2 lc2 lss, [.obj lo (.loop (rbusy r))], []⟩) ?_ ?_
        · exact Shift.to ⟨_, 0, none, 0, 0, [], rfl, by omega, rfl, by omega, by simp, rfl⟩ ⟨rfl, rfl, rfl, ⟨rfl, rfl, rfl, rfl, rfl, rfl, rfl, rfl, rfl, rfl, trivial⟩, Own.sub_refl _⟩
        · rintro mm s ⟨k, sa, sn, sc, sss, rfl, hk, hsl, hsk, hss, rfl⟩
          by_cases hlt : k < m
          · obtain ⟨b', o, z, rfl, hzk, hcz⟩ := hgr.atm k hlt
            have hcy := hcz
            unfold lrow at hcy
            repeat' (first | (refine O_ev hF rfl (Ev_loadH rfl hcy rfl) rfl rfl ?_) | (refine O_ef rfl (Ef_callp hF (before_fn (y := z)) ⟨rfl, trivial⟩ rfl ?_)) | refine O_nil ?_ | refine A_seq ?_ | refine A_region ?_ | refine A_skip ?_ | refine A_block ?_ | (show opsA _ _ _ _ _ _ _; first | refine O_ev hF rfl (Ev_pure rfl) rfl rfl ?_ | (show opsA _ _ _ _ (⟨_, .load _ _, _, _, _, _⟩ :: _) _ _; refine O_ev hF rfl (Ev_loadB (i := 0) rfl rfl rfl) rfl rfl ?_) | (show opsA _ _ _ _ (⟨_, .indexAddr _ _ _, _, _, _, _⟩ :: _) _ _; refine O_ev hF rfl (Ev_indexAddr rfl rfl (by omega) (by omega)) rfl rfl ?_) | (show opsA _ _ _ _ (⟨_, .call _, _, _, _, _⟩ :: _) _ _; (refine O_f2 (O_ef rfl (Ef_appendR hF rfl rfl rfl rfl rfl (by simp; omega) (by simp; omega) rfl ?_)); intro a cp)) | (show opsA _ _ _ _ (⟨_, .buildSlice _ _ _, _, _, _, _⟩ :: _) _ _; (refine O_ef rfl (Ef_build1a hF rfl rfl rfl rfl rfl ?_); intro b)) | (show opsA _ _ _ _ (⟨_, .binOp _ _ _ _ _, _, _, _, _⟩ :: _) _ _; refine O_ev hF rfl (Ev_add rfl rfl (wi64 (by omega))) rfl rfl ?_) | (show opsA _ _ _ _ (⟨_, .alloc _, _, _, _, _⟩ :: _) _ _; (refine O_ef rfl (Ef_alloc hF rfl ?_); intro b)) | (show opsA _ _ _ _ (⟨_, .store _ _ _, _, _, _, _⟩ :: _) _ _; refine O_ef rfl (Ef_storew hF rfl rfl rfl rfl rfl ?_))) | (show wpA _ _ _ (.cond _ _ _) _ _ _ _; (refine A_if rfl (fun h => ?_) (fun h => ?_) <;> try (exfalso; omega))))
            refine Shift.to ⟨_, ?_, k + 1, _, _, _, sss ++ [stc z.st], rfl, by omega, rfl, ?_, ?_, rfl⟩ ⟨rfl, rfl, rfl, ⟨rfl, rfl, rfl, rfl, rfl, rfl, rfl, rfl, rfl, rfl, trivial⟩, Own.subi [0, 2, 3, 4, 5, 6] (by decide) rfl rfl⟩
            · omega
            · simp; omega
            · rw [take_get hzk, hss]; simp
          · have hin : m = k := by omega
            subst hin
            rw [List.take_of_length_le (by omega)] at hss
            have hsm : sn = m := by rw [← hsl, hss]; simp [hgl]
            repeat' (first | (refine O_ef rfl (Ef_callp hF (present_fn (k := y.key) hh8 hs (by omega)) ⟨rfl, rfl, trivial⟩ rfl ?_)) | refine O_nil ?_ | refine A_seq ?_ | refine A_region ?_ | refine A_block ?_ | (show opsA _ _ _ _ _ _ _; first | refine O_ev hF rfl (Ev_pure rfl) rfl rfl ?_ | (show opsA _ _ _ _ (⟨_, .load _ _, _, _, _, _⟩ :: _) _ _; refine O_ev hF rfl (Ev_loadH rfl (by assumption) (by rfl)) rfl rfl ?_) | (show opsA _ _ _ _ (⟨_, .call _, _, _, _, _⟩ :: _) _ _; first | refine O_ev hF rfl (Ev_llen rfl) rfl rfl ?_ | (refine O_f1 (O_ef rfl (Ef_appendR hF rfl rfl rfl rfl rfl (by simp; omega) (by simp; omega) rfl ?_)); intro a cp)) | (show opsA _ _ _ _ (⟨_, .buildSlice _ _ _, _, _, _, _⟩ :: _) _ _; (refine O_ef rfl (Ef_build1a hF rfl rfl rfl rfl rfl ?_); intro b))) | (show wpA _ _ _ (.exit _) _ _ _ _; refine A_exit rfl ?_) | (show wpA _ _ _ (.cond _ _ _) _ _ _ _; (refine A_if rfl (fun h => ?_) (fun h => ?_) <;> try (exfalso; omega))))
            have hsts : sss ++ [stc (getP q.props y.key)] = (g.map Layr.st ++ [getP q.props y.key]).map stc := by rw [hss]; simp
            have hstl : (sss ++ [stc (getP q.props y.key)]).length = m + 1 := by simp; omega
            refine A_freeze (css := sss ++ [stc (getP q.props y.key)]) (by rw [hsts]; exact stc_one _) ?_
            intro H9 hle9 hsr
            have hsr' : HRow H9 a (sss ++ [stc (getP q.props y.key)]).length cp 2 ((g.map Layr.st ++ [getP q.props y.key]).map stc) := by rw [← hsts]; exact hsr
            have hgr := hgr.mono hle9
            have hb6 := hle9 _ _ _ hb6
            have hb7 := hle9 _ _ _ hb7
            have hx9 : HLe H6 H9 := hx8.trans hle9
            have d1 := fun rev => dec1_fn (hx9 _ _ _ hb3) (hv6.mono hx9) rev
            have d2 := fun rev => dec2_fn (hx9 _ _ _ hb3) (hv6.mono hx9) rev
            have hpr := hpr.mono hle9
            refine A_loopu (fun mm s => ∃ (k fi : Nat), mm = m - k ∧ k ≤ m ∧ fi = firstA acc (g.take k) ∧ s = ⟨162, (17, .int .i64 fi) :: (109, .int .i64 k) :: (108, .int .i64 m) :: (107, .slice ga m gc) :: (14, .slice a (sss ++ [stc (getP q.props y.key)]).length cp) :: rEnv b2 b6 b7 b9 y.key ga m gc, H9, rOwn acc q b9 b4 da' dn' dc' dss pa2 pn2 pc2 la2 ln2 lc2 lss, [.obj lo (.loop (rbusy r))], []⟩) ?_ ?_
            · exact Shift.to ⟨_, 0, 0, rfl, by omega, rfl, rfl⟩ ⟨rfl, rfl, rfl, ⟨rfl, rfl, rfl, rfl, rfl, rfl, rfl, rfl, rfl, rfl, rfl, trivial⟩, Own.sub_refl _⟩
            · rintro mm s ⟨k, fi, rfl, hk, hfi, rfl⟩
              by_cases hlt : k < m
              · obtain ⟨b', o, z, rfl, hzk, hcz⟩ := hgr.atm k hlt
                have hcy := hcz
                unfold lrow at hcy
                have d1i := d1 z.rev
                have hfk : firstA acc (g.take (k + 1)) = if acc z.rev then k + 1 else firstA acc (g.take k) := by
                  rw [take_get hzk, firstA_snoc, List.length_take, Nat.min_eq_left (by omega)]
                cases hr : acc z.rev with
                | true =>
                  rw [hr] at d1i hfk
                  repeat' (first | (refine O_ev hF rfl (Ev_loadH rfl hcy rfl) rfl rfl ?_) | (refine O_ev hF rfl (Ev_loadH1 rfl hb6) rfl rfl ?_) | (refine O_ef rfl (Ef_callcp (args := [_]) hF d1i rfl ⟨rfl, trivial⟩ rfl ?_)) | refine O_nil ?_ | refine A_seq ?_ | refine A_region ?_ | refine A_skip ?_ | refine A_block ?_ | (show opsA _ _ _ _ _ _ _; first | refine O_ev hF rfl (Ev_pure rfl) rfl rfl ?_ | (show opsA _ _ _ _ (⟨_, .load _ _, _, _, _, _⟩ :: _) _ _; refine O_ev hF rfl (Ev_loadB1 (i := 0) rfl rfl rfl) rfl rfl ?_) | (show opsA _ _ _ _ (⟨_, .indexAddr _ _ _, _, _, _, _⟩ :: _) _ _; refine O_ev hF rfl (Ev_indexAddr rfl rfl (by omega) (by omega)) rfl rfl ?_) | (show opsA _ _ _ _ (⟨_, .fieldAddr _ _ _, _, _, _, _⟩ :: _) _ _; refine O_ev hF rfl (Ev_fieldAddr rfl rfl rfl) rfl rfl ?_) | (show opsA _ _ _ _ (⟨_, .binOp _ _ _ _ _, _, _, _, _⟩ :: _) _ _; refine O_ev hF rfl (Ev_add rfl rfl (wi64 (by omega))) rfl rfl ?_) | (show opsA _ _ _ _ (⟨_, .alloc _, _, _, _, _⟩ :: _) _ _; (refine O_ef rfl (Ef_alloc hF rfl ?_); intro b)) | (show opsA _ _ _ _ (⟨_, .store _ _ _, _, _, _, _⟩ :: _) _ _; refine O_ef rfl (Ef_storew hF rfl rfl rfl rfl rfl ?_))) | (show wpA _ _ _ (.cond _ _ _) _ _ _ _; first | (refine A_if rfl (fun h => ?_) (fun h => ?_) <;> try (exfalso; omega)) | refine A_iftrue rfl ?_))
                  refine Shift.to ⟨_, ?_, k + 1, k + 1, rfl, by omega, ?_, rfl⟩ ⟨rfl, rfl, rfl, ⟨rfl, rfl, rfl, rfl, rfl, rfl, rfl, rfl, rfl, rfl, rfl, trivial⟩, Own.subi [1, 2, 3, 4, 5] (by decide) rfl rfl⟩
                  · omega
                  · rw [hfk]; rfl
                | false =>
                  rw [hr] at d1i hfk
                  repeat' (first | (refine O_ev hF rfl (Ev_loadH rfl hcy rfl) rfl rfl ?_) | (refine O_ev hF rfl (Ev_loadH1 rfl hb6) rfl rfl ?_) | (refine O_ef rfl (Ef_callcp (args := [_]) hF d1i rfl ⟨rfl, trivial⟩ rfl ?_)) | refine O_nil ?_ | refine A_seq ?_ | refine A_region ?_ | refine A_skip ?_ | refine A_block ?_ | (show opsA _ _ _ _ _ _ _; first | refine O_ev hF rfl (Ev_pure rfl) rfl rfl ?_ | (show opsA _ _ _ _ (⟨_, .load _ _, _, _, _, _⟩ :: _) _ _; refine O_ev hF rfl (Ev_loadB1 (i := 0) rfl rfl rfl) rfl rfl ?_) | (show opsA _ _ _ _ (⟨_, .indexAddr _ _ _, _, _, _, _⟩ :: _) _ _; refine O_ev hF rfl (Ev_indexAddr rfl rfl (by omega) (by omega)) rfl rfl ?_) | (show opsA _ _ _ _ (⟨_, .fieldAddr _ _ _, _, _, _, _⟩ :: _) _ _; refine O_ev hF rfl (Ev_fieldAddr rfl rfl rfl) rfl rfl ?_) | (show opsA _ _ _ _ (⟨_, .binOp _ _ _ _ _, _, _, _, _⟩ :: _) _ _; refine O_ev hF rfl (Ev_add rfl rfl (wi64 (by omega))) rfl rfl ?_) | (show opsA _ _ _ _ (⟨_, .alloc _, _, _, _, _⟩ :: _) _ _; (refine O_ef rfl (Ef_alloc hF rfl ?_); intro b)) | (show opsA _ _ _ _ (⟨_, .store _ _ _, _, _, _, _⟩ :: _) _ _; refine O_ef rfl (Ef_storew hF rfl rfl rfl rfl rfl ?_))) | (show wpA _ _ _ (.cond _ _ _) _ _ _ _; first | (refine A_if rfl (fun h => ?_) (fun h => ?_) <;> try (exfalso; omega)) | refine A_iffalse rfl ?_))
                  refine Shift.to ⟨_, ?_, k + 1, fi, rfl, by omega, ?_, rfl⟩ ⟨rfl, rfl, rfl, ⟨rfl, rfl, rfl, rfl, rfl, rfl, rfl, rfl, rfl, rfl, rfl, trivial⟩, Own.subi [1, 2, 3, 4, 5] (by decide) rfl rfl⟩
                  · omega
                  · rw [hfk, hfi]; rfl
              · have hin2 : m = k := by omega
                subst hin2
                rw [List.take_of_length_le (l := g) (by omega)] at hfi
                have hfl := firstA_le acc g
                obtain ⟨sb, so, st1, rfl, hst1, hcs1⟩ := hsr'.atm fi (by omega)
                have hst1' := states_at (getP q.props y.key) g fi (by omega)
                rw [hst1] at hst1'
                cases hst1'
                unfold stc at hcs1
                repeat' (first | (refine O_ev hF rfl (Ev_loadH rfl hcs1 rfl) rfl rfl ?_) | refine O_nil ?_ | refine A_seq ?_ | refine A_region ?_ | refine A_block ?_ | (show opsA _ _ _ _ _ _ _; first | refine O_ev hF rfl (Ev_pure rfl) rfl rfl ?_ | (show opsA _ _ _ _ (⟨_, .indexAddr _ _ _, _, _, _, _⟩ :: _) _ _; refine O_ev hF rfl (Ev_indexAddr rfl rfl (by omega) (by omega)) rfl rfl ?_) | (show opsA _ _ _ _ (⟨_, .alloc _, _, _, _, _⟩ :: _) _ _; (refine O_ef rfl (Ef_alloc hF rfl ?_); intro b)) | (show opsA _ _ _ _ (⟨_, .store _ _ _, _, _, _, _⟩ :: _) _ _; refine O_ef rfl (Ef_storew hF rfl rfl rfl rfl rfl ?_))) | (show wpA _ _ _ (.exit _) _ _ _ _; refine A_exit rfl ?_) | (show wpA _ _ _ (.cond _ _ _) _ _ _ _; (refine A_if rfl (fun h => ?_) (fun h => ?_) <;> try (exfalso; omega))))
                obtain ⟨b20, hb20⟩ : ∃ z, z = b := ⟨_, rfl⟩
                subst hb20
                obtain ⟨W, hWd⟩ : ∃ W, W = stepG acc rej (getP q.props y.key) g := ⟨_, rfl⟩
                have hW : W = walkG rej (getP q.props y.key) (nxt (getP q.props y.key) (g.drop fi)) (g.drop fi) := by rw [hWd, hfi]; rfl
                refine A_loopu (fun mm s => ∃ (k : Nat) (now : St) (la3 : Option Addr) (ln3 lc3 : Nat) (lss3 : List (List Value)) (out3 : List Layr), mm = m - k ∧ k ≤ m ∧ lss3.length = ln3 ∧ lss3 = out3.map lrow ∧ out3.length ≤ i + k ∧
                  W.1 = (walkG rej (getP q.props y.key) now (g.drop k)).1 ∧ out ++ W.2 = out3 ++ (walkG rej (getP q.props y.key) now (g.drop k)).2 ∧
                  s = ⟨162, (21, .int .i64 k) :: (20, ptr b20) :: (14, .slice (some ⟨sb, so, none⟩) (sss ++ [stc (getP q.props y.key)]).length cp) :: rEnv b2 b6 b7 b9 y.key ga m gc, H9, .box b20 (stc now) :: rOwn acc q b9 b4 da' dn' dc' dss pa2 pn2 pc2 la3 ln3 lc3 lss3, [.obj lo (.loop (rbusy r))], []⟩) ?_ ?_
                · exact Shift.to ⟨_, fi, _, la2, ln2, lc2, lss, out, rfl, by omega, hln2, hls, by omega, by rw [hW], by rw [hW], rfl⟩ ⟨rfl, rfl, rfl, ⟨rfl, rfl, rfl, rfl, rfl, rfl, rfl, rfl, rfl, trivial⟩, Own.sub_refl _⟩
                · rintro mm s ⟨k, now, la3, ln3, lc3, lss3, out3, rfl, hk, hl3, hls3, ho3, hW1, hW2, rfl⟩
                  by_cases hlt : k < m
                  · obtain ⟨b', o, z, rfl, hzk, hcz⟩ := hgr.atm k hlt
                    have hcy := hcz
                    unfold lrow at hcy
                    have d2i := d2 z.rev
                    have hdk : g.drop k = z :: g.drop (k + 1) := by
                      rw [List.drop_eq_getElem_cons (by omega)]
                      congr 1
                      rw [List.getElem?_eq_getElem (by omega)] at hzk
                      exact Option.some.inj hzk
                    rw [hdk, walkG] at hW1 hW2
                    cases hr : rej z.rev with
                    | true =>
                      rw [hr] at d2i
                      rw [if_pos hr] at hW1 hW2
                      repeat' (first | (refine A_drawL hF (.q 0 (.q 1 (.q 2 (.q 3 (.q 4 (.q 5 (.e 6 (.done [])))))))) [] (by decide +kernel) ?_) | (refine D_ev rfl (Ev_loadH1 rfl hb7) rfl rfl ?_) | (refine D_ev rfl (Ev_loadH1 rfl (hcz 0 _ rfl)) rfl rfl ?_) | (refine E_ef rfl (Ef_callcp (args := [_]) hF d2i rfl ⟨rfl, trivial⟩ rfl ?_); refine ⟨Grow.same rfl rfl, ?_⟩) | refine O_nil ?_ | refine A_seq ?_ | refine A_region ?_ | refine A_skip ?_ | refine A_block ?_ | (show drJ _ _ _ _ _ _ _ (.q _ _) _; refine D_q rfl ?_) | (show drJ _ _ _ _ _ _ _ (.e _ _) _; refine D_e rfl ?_) | (show drJ _ _ _ _ _ _ _ (.done _) _; refine D_done ?_; simp only [List.cons_append, List.nil_append]) | (show drQ _ _ _ _ _ _; first | refine D_ev rfl (Ev_pure rfl) rfl rfl ?_ | (show drQ _ _ _ ⟨_, .indexAddr _ _ _, _, _, _, _⟩ _ _; refine D_ev rfl (Ev_indexAddr rfl rfl (by omega) (by omega)) rfl rfl ?_) | (show drQ _ _ _ ⟨_, .fieldAddr _ _ _, _, _, _, _⟩ _ _; refine D_ev rfl (Ev_fieldAddr rfl rfl rfl) rfl rfl ?_)) | (show opsA _ _ _ _ _ _ _; first | refine O_ev hF rfl (Ev_pure rfl) rfl rfl ?_ | (show opsA _ _ _ _ (⟨_, .call _, _, _, _, _⟩ :: _) _ _; refine O_ev hF rfl (Ev_llen rfl) rfl rfl ?_) | (show opsA _ _ _ _ (⟨_, .binOp _ _ _ _ _, _, _, _, _⟩ :: _) _ _; refine O_ev hF rfl (Ev_add rfl rfl (wi64 (by omega))) rfl rfl ?_)) | (show wpA _ _ _ (.exit _) _ _ _ _; refine A_exit rfl ?_) | (show wpA _ _ _ (.cond _ _ _) _ _ _ _; first | (refine A_if rfl (fun h => ?_) (fun h => ?_) <;> try (exfalso; omega)) | refine A_iftrue rfl ?_))
                      refine Shift.to ⟨_, ?_, k + 1, now, la3, ln3, lc3, lss3, out3, rfl, by omega, hl3, hls3, by omega, hW1, hW2, rfl⟩ ⟨rfl, rfl, rfl, ⟨rfl, rfl, rfl, rfl, rfl, rfl, rfl, rfl, rfl, trivial⟩, Own.sub_refl _⟩
                      omega
                    | false =>
                      rw [hr] at d2i
                      rw [if_neg (by simp [hr])] at hW1 hW2
                      obtain ⟨sb2, so2, st2, hsb2, hst2, hcs2⟩ := hsr'.atm (k + 1) (by omega)
                      cases hsb2
                      have hst2' := states_at (getP q.props y.key) g (k + 1) (by omega)
                      rw [hst2] at hst2'
                      cases hst2'
                      unfold stc at hcs2
                      have hlb : lss3.length ≤ i + k := by rw [hls3]; simpa using ho3
                      repeat' (first | (refine A_drawL hF (.q 0 (.q 1 (.q 2 (.q 3 (.q 4 (.q 5 (.e 6 (.done [])))))))) [] (by decide +kernel) ?_) | (refine D_ev rfl (Ev_loadH1 rfl hb7) rfl rfl ?_) | (refine D_ev rfl (Ev_loadH1 rfl (hcz 0 _ rfl)) rfl rfl ?_) | (refine E_ef rfl (Ef_callcp (args := [_]) hF d2i rfl ⟨rfl, trivial⟩ rfl ?_); refine ⟨Grow.same rfl rfl, ?_⟩) | refine O_nil ?_ | refine A_seq ?_ | refine A_region ?_ | refine A_skip ?_ | refine A_block ?_ | (show drJ _ _ _ _ _ _ _ (.q _ _) _; refine D_q rfl ?_) | (show drJ _ _ _ _ _ _ _ (.e _ _) _; refine D_e rfl ?_) | (show drJ _ _ _ _ _ _ _ (.done _) _; refine D_done ?_; simp only [List.cons_append, List.nil_append]) | (show drQ _ _ _ _ _ _; first | refine D_ev rfl (Ev_pure rfl) rfl rfl ?_ | (show drQ _ _ _ ⟨_, .indexAddr _ _ _, _, _, _, _⟩ _ _; refine D_ev rfl (Ev_indexAddr rfl rfl (by omega) (by omega)) rfl rfl ?_) | (show drQ _ _ _ ⟨_, .fieldAddr _ _ _, _, _, _, _⟩ _ _; refine D_ev rfl (Ev_fieldAddr rfl rfl rfl) rfl rfl ?_)) | (show opsA _ _ _ _ _ _ _; first | refine O_ev hF rfl (Ev_pure rfl) rfl rfl ?_ | (show opsA _ _ _ _ (⟨_, .call _, _, _, _, _⟩ :: _) _ _; refine O_ev hF rfl (Ev_llen rfl) rfl rfl ?_)) | (show wpA _ _ _ (.cond _ _ _) _ _ _ _; first | (refine A_if rfl (fun h => ?_) (fun h => ?_) <;> try (exfalso; omega)) | refine A_iffalse rfl ?_))
                      (refine A_drawi hF (.q 0 (.q 1 (.q 2 (.q 3 (.q 4 (.q 5 (.q 6 (.q 7 (.e 8 (.e 9 (.r (.e 10 (.q 11 (.q 12 (.e 13 (.done [])))))))))))))))) [10, 11, 12, 13] [] [0, 1, 2, 3, 4] (by decide +kernel) (by decide) rfl ?_; simp only [Own.picks, Own.rget, List.cons_append, List.nil_append, List.append_nil])
                      repeat' (first | (refine D_ev rfl (Ev_loadH rfl hcy rfl) rfl rfl ?_) | (refine E_ef rfl (Ef_callp hF (from_fn (y := z) (s := now)) ⟨rfl, rfl, trivial⟩ rfl ?_); refine ⟨Grow.same rfl rfl, ?_⟩) | (refine E_ef rfl (Ef_f4 (Ef_appendR hF rfl rfl rfl rfl rfl (by simp; omega) (by simp; omega) rfl ?_)); intro la4 lc4; refine ⟨Grow.same rfl rfl, ?_⟩) | (refine O_ev hF rfl (Ev_loadH rfl hcs2 rfl) rfl rfl ?_) | refine O_nil ?_ | refine A_region ?_ | (show drJ _ _ _ _ _ _ _ (.q _ _) _; refine D_q rfl ?_) | (show drJ _ _ _ _ _ _ _ (.e _ _) _; refine D_e rfl ?_) | (show drJ _ _ _ _ _ _ _ (.r _) _; refine D_r ?_; simp only [List.cons_append, List.nil_append]) | (show drJ _ _ _ _ _ _ _ (.done _) _; refine D_done ?_; simp only [List.cons_append, List.nil_append]) | (show drQ _ _ _ _ _ _; first | refine D_ev rfl (Ev_pure rfl) rfl rfl ?_ | (show drQ _ _ _ ⟨_, .load _ _, _, _, _, _⟩ _ _; first | refine D_ev rfl (Ev_loadB1 (i := 1) rfl rfl rfl) rfl rfl ?_ | refine D_ev rfl (Ev_loadB (i := 0) rfl rfl rfl) rfl rfl ?_) | (show drQ _ _ _ ⟨_, .indexAddr _ _ _, _, _, _, _⟩ _ _; refine D_ev rfl (Ev_indexAddr rfl rfl (by omega) (by omega)) rfl rfl ?_) | (show drQ _ _ _ ⟨_, .fieldAddr _ _ _, _, _, _, _⟩ _ _; refine D_ev rfl (Ev_fieldAddr rfl rfl rfl) rfl rfl ?_)) | (show drE _ _ _ _ _ _ _; first | (show drE _ _ _ _ ⟨_, .buildSlice _ _ _, _, _, _, _⟩ _ _; (refine E_ef rfl (Ef_build1a hF rfl rfl rfl rfl rfl ?_); intro b; refine ⟨Grow.same rfl rfl, ?_⟩)) | (show drE _ _ _ _ ⟨_, .store _ _ _, _, _, _, _⟩ _ _; (refine E_ef rfl (Ef_f2 (Ef_store1 hF rfl rfl rfl rfl rfl ?_)); refine ⟨Grow.same rfl rfl, ?_⟩))) | (show opsA _ _ _ _ _ _ _; first | refine O_ev hF rfl (Ev_pure rfl) rfl rfl ?_ | (show opsA _ _ _ _ (⟨_, .indexAddr _ _ _, _, _, _, _⟩ :: _) _ _; refine O_ev hF rfl (Ev_indexAddr rfl rfl (by omega) (by omega)) rfl rfl ?_) | (show opsA _ _ _ _ (⟨_, .binOp _ _ _ _ _, _, _, _, _⟩ :: _) _ _; refine O_ev hF rfl (Ev_add rfl rfl (wi64 (by omega))) rfl rfl ?_) | (show opsA _ _ _ _ (⟨_, .store _ _ _, _, _, _, _⟩ :: _) _ _; refine O_f2 (O_ef rfl (Ef_storew hF rfl rfl rfl rfl rfl ?_)))))
                      refine Shift.to ⟨_, ?_, k + 1, nxt (getP q.props y.key) (g.drop (k + 1)), _, _, _, lss3 ++ [lrow (z.put now)], out3 ++ [z.put now], rfl, by omega, rfl, ?_, ?_, hW1, ?_, rfl⟩ ⟨rfl, rfl, rfl, ⟨rfl, rfl, rfl, rfl, rfl, rfl, rfl, rfl, rfl, trivial⟩, Own.subi [0, 1, 3, 2, 4, 5] (by decide) rfl rfl⟩
                      · omega
                      · rw [hls3]; simp
                      · simp; omega
                      · rw [hW2]; simp
                  · have hin3 : m = k := by omega
                    subst hin3
                    rw [List.drop_of_length_le (by omega), walkG] at hW1 hW2
                    simp only [List.append_nil] at hW1 hW2
                    have hwr := with_raw (k := y.key) (s := now) (i := insA acc q) (m := movA acc q) (da := da') (dn := dn') (dc := dc') (la := la3) (ln := ln3) (lc := lc3) hpr hinc (by omega)
                    repeat' (first | (refine O_ef rfl (Ef_call (I := []) hF hwr ⟨rfl, rfl, rfl, trivial⟩ rfl ?_); rintro v H10 I10 hle10 ⟨⟨pa3, pn3, pc3, rfl, hr10⟩, rfl⟩) | refine O_nil ?_ | refine A_seq ?_ | refine A_region ?_ | (show opsA _ _ _ _ _ _ _; first | refine O_ev hF rfl (Ev_pure rfl) rfl rfl ?_ | (show opsA _ _ _ _ (⟨_, .load _ _, _, _, _, _⟩ :: _) _ _; first | refine O_ev hF rfl (Ev_loadB (i := 0) rfl rfl rfl) rfl rfl ?_ | refine O_ev hF rfl (Ev_loadB (i := 1) rfl rfl rfl) rfl rfl ?_) | (show opsA _ _ _ _ (⟨_, .call _, _, _, _, _⟩ :: _) _ _; refine O_ev hF rfl (Ev_llen rfl) rfl rfl ?_) | (show opsA _ _ _ _ (⟨_, .store _ _ _, _, _, _, _⟩ :: _) _ _; refine O_f1 (O_ef rfl (Ef_storew hF rfl rfl rfl rfl rfl ?_)))) | (show wpA _ _ _ (.exit _) _ _ _ _; refine A_exit rfl ?_) | (show wpA _ _ _ (.cond _ _ _) _ _ _ _; (refine A_if rfl (fun h => ?_) (fun h => ?_) <;> try (exfalso; omega))))
                    refine RendN_to (s' := ⟨162, [], H10, rOwn acc q b9 b4 da' dn' dc' dss pa3 pn3 pc3 la3 ln3 lc3 lss3, [.obj lo (.loop (rbusy r))], []⟩) ⟨rfl, rfl, rfl, trivial, Own.subi [0, 2, 3, 4, 5] (by decide) rfl rfl⟩ rfl ?_
                    refine ⟨_, _, rfl, .inl ⟨rfl, rfl, pa3, pn3, pc3, _, la3, ln3, lc3, out3, lss3, hr10, withP_inc hinc, ?_, by omega, hl3, hls3, ?_, rfl⟩⟩
                    · have := withP_len pr y.key now
                      omega
                    · rw [hdec, decL_step (m := m) (y := y) (by rw [List.getElem?_drop]; simpa using hyi) hgm, ← hg0, ← hWd, hW1, hW2, List.drop_drop]
      · rintro v H9 I9 hle9 ⟨r', M', rfl, ⟨rfl, pa2, pn2, pc2, pr, la2, ln2, lc2, out, lss, hpr, hinc, hprl, hout, hln2, hls, hdec, rfl⟩ | ⟨j, rfl, hE⟩⟩
        · refine ⟨_, _, rfl, by rw [hrr.1]; simp, ?_⟩
          rw [hrr.2]
          clear has hbo hrr
          show wpA _ _ _ _ _ _ _ _
          repeat' (first | refine O_nil ?_ | refine A_seq ?_ | refine A_region ?_ | refine A_ret ?_ | (show opsA _ _ _ _ _ _ _; first | refine O_ev WideF.wide rfl (Ev_pure rfl) rfl rfl ?_ | (show opsA _ _ _ _ (⟨_, .load _ _, _, _, _, _⟩ :: _) _ _; refine O_ev WideF.wide rfl (Ev_loadB (i := 1) rfl rfl rfl) rfl rfl ?_) | (show opsA _ _ _ _ (⟨_, .store _ _ _, _, _, _, _⟩ :: _) _ _; refine O_f4 (O_ef rfl (Ef_storew WideF.wide rfl rfl rfl rfl rfl ?_)))))
          refine Shift.lek ⟨162, [(4, ptr b4), (5, .bool true)], H9, [.obj dd (.deferred (some [])), .box b4 [.slice pa2 pn2 pc2, .int .i64 (insA acc q), .int .i64 (movA acc q), .slice da' dn' dc', .slice la2 ln2 lc2], .row (.slice da' dn' dc') 2 dss, .row (.slice la2 ln2 lc2) 4 lss], [], [rmark dd]⟩ ⟨rfl, rfl, rfl, ⟨rfl, rfl, trivial⟩, Own.subi [1, 0, 3, 4] (by decide) rfl rfl⟩ ?_
          rw [no]
          refine EndM_s (RetT2 rfl rfl (i := 0) rfl rfl rfl) ?_
          refine Shift.lek ⟨162, [], H9, [.row (.slice da' dn' dc') 2 dss, .row (.slice la2 ln2 lc2) 4 lss], [], []⟩ ⟨rfl, rfl, rfl, trivial, Own.subi [1, 2] (by decide) rfl rfl⟩ ?_
          refine Shift_freeze (by rw [hds]; exact drow_one _) fun H10 hle10 hr10 => Shift_freeze (by rw [hls]; exact lrow_one _) fun H11 hle11 hr11 => Shift.pure ⟨rfl, ⟨_, rfl, ?_⟩, rfl⟩
          rw [List.drop_of_length_le (by omega), decL_nil] at hdec
          unfold decH
          rw [if_neg (by simp [no]), hdec]
          exact ⟨⟨pa2, pn2, pc2, da', dn', dc', la2, ln2, lc2, rfl, hpr.mono (hle10.trans hle11), by rw [← hds]; exact hr10.mono hle11, by rw [← hls]; exact hr11⟩⟩
        · exact hE.elim
end Go.Proofs.Ythniohgeojenaaa
