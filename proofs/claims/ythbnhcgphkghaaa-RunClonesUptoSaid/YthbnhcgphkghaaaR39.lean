/-
  The law RunClones.
-/
import Derived.Test.YthbnhcgphkghaaaR37
import Derived.Test.YthbnhcgphkghaaaR27
namespace Go.Proofs.Ythbnhcgphkghaaa
open Go
set_option linter.unusedVariables false
set_option linter.unusedSimpArgs false
/-! ### a store into what has come to be -/
def upd (H : Hp) (b o : Nat) (v : Value) : Hp := fun b' o' => if b' = b ∧ o' = o then some v else H b' o'
theorem upd_ne {H : Hp} {b o : Nat} {v : Value} {b' o' : Nat} (h : ¬ (b' = b ∧ o' = o)) : upd H b o v b' o' = H b' o' := if_neg h
theorem upd_self {H : Hp} {b o : Nat} {v : Value} : upd H b o v b o = some v := if_pos ⟨rfl, rfl⟩
theorem Hd_of {H H1 : Hp} {a : Option Addr} {n c : Nat} {l : List Item} (_ : FlowH (Hd H H1) a n c l) : ∃ Hc, Hc = Hd H H1 := ⟨_, rfl⟩
theorem Hd_none {H H' : Hp} {b o : Nat} {v : Value} (h : H b o = some v) : Hd H H' b o = none := by unfold Hd; rw [h]
theorem Holds.upd {c : Ctx} {H : Hp} {R : Own} {w : World} {b o : Nat} {u v : Value} {cs : List Value} {T : TypeId} (h : Holds c H R w) (hb : H b o = some u) (h0 : c.H0 b o = none) (hv : v.oneCell' = true) (hc : w.heap[b]? = some (.cells cs.toArray T (0, 0))) :
    Holds c (upd H b o v) R (w.setRow b (cput cs o [v]).toArray) := by
  have hlt : o < cs.length := by
    have := (h.mem b o u hb).1
    simp only [World.cell?, hc] at this
    simp at this
    exact (List.getElem?_eq_some_iff.1 this).1
  have he : cput cs o [v] = cs.set o v := by
    simp only [cput, List.length_singleton]
    rw [List.set_eq_take_append_cons_drop]
    simp [hlt]
  have hnR : b ∉ Own.blocks R := fun hm => by rw [h.apart b hm o] at hb; cases hb
  have hm := Moves.setRow w b (cput cs o [v]).toArray
  have hs := setRow_heap w b _ (cput cs o [v]).toArray T _ hc
  have hblk : ∀ b', b' < w.heap.size → b' ≠ b → (w.setRow b (cput cs o [v]).toArray).heap[b']? = w.heap[b']? := fun b' hl hne => hm.block b' hl (by simpa using hne)
  refine ⟨?_, ?_, h.sep, ?_, h.fresh, ?_, ?_, ?_, ?_⟩
  · intro b' o' v' hv'
    by_cases hbo : b' = b ∧ o' = o
    · obtain ⟨rfl, rfl⟩ := hbo
      rw [upd_self] at hv'
      cases hv'
      exact ⟨cell_of_heap hs (by rw [he]; simp [hlt]), hv⟩
    · rw [upd_ne hbo] at hv'
      obtain ⟨h1, h2⟩ := h.mem b' o' v' hv'
      refine ⟨?_, h2⟩
      by_cases hbb : b' = b
      · subst hbb
        have ho : o' ≠ o := fun e => hbo ⟨rfl, e⟩
        refine cell_of_heap hs ?_
        simp only [World.cell?, hc] at h1
        simp at h1
        rw [he]
        simp [List.getElem?_set_ne (Ne.symm ho), h1]
      · rw [World.cell?_of_block (w := w) (a := ⟨b', o', none⟩) (hblk b' (h.mem.lt hv') hbb)]; exact h1
  · intro r hr
    refine Res.ok_of_block (h.own r hr) fun b' hb' => ?_
    have hbm : b' ∈ Own.blocks R := Own.mem_blocks.2 ⟨r, hr, hb'⟩
    exact hblk b' (h.lt b' hbm) fun e => hnR (e ▸ hbm)
  · intro b' hb' o'
    rw [upd_ne fun e => hnR (by rw [← e.1]; exact hb')]
    exact h.apart b' hb' o'
  · refine h.old.moves hm fun b' hb' => ?_
    rw [List.mem_singleton] at hb'
    subst hb'
    rcases h.hnew b' o u hb with h1 | h1
    · rw [h0] at h1; cases h1
    · exact h1
  · intro b' o' v' hv'
    rw [upd_ne fun e => by rw [e.1, e.2, h0] at hv'; cases hv']
    exact h.hle b' o' v' hv'
  · intro b' o' v' hv'
    by_cases hbo : b' = b ∧ o' = o
    · obtain ⟨rfl, rfl⟩ := hbo
      rcases h.hnew b' o' u hb with h1 | h1
      · rw [h0] at h1; cases h1
      · exact .inr h1
    · rw [upd_ne hbo] at hv'
      exact h.hnew b' o' v' hv'
  · intro b' o' v' hv' h0'
    by_cases hbb : b' = b
    · subst hbb; exact ⟨_, _, hs⟩
    · rw [upd_ne fun e => hbb e.1] at hv'
      obtain ⟨cs', T', hh⟩ := h.thaw b' o' v' hv' h0'
      exact ⟨cs', T', by rw [hblk b' (h.mem.lt hv') hbb]; exact hh⟩
theorem Ef_storeP {F : Fence} {P : Program} {c : Ctx} {K : SP} {n : Nat} {e : Env} {H : Hp} {M L : Own} {D : List Deferred} {ty : TypeId} {pos : String} {after : Array Edge} {g : Option (Nat × Bool)} {x y : Operand} {v u : Value} {t : TypeId} {b off : Nat}
    (hF : WideF F) {ag : Bool} [hT : TyC P t ag 1] (hx : e.eval x = some (.pointer (some ⟨b, off, none⟩))) (hy : e.eval y = some v) (hv : v.oneCell' = true) (hb : H b off = some u) (h0 : c.H0 b off = none)
    (k : K ⟨n, e, upd H b off v, M, L, D⟩) : Ef F P c ⟨none, .store t x y, ty, pos, after, g⟩ ⟨n, e, H, M, L, D⟩ K := Ef_of_skip hF (by simp) fun a w hs => by
  obtain ⟨cs, T, hc⟩ := hs.holds.thaw b off u hb h0
  have hlt : off < cs.size := by
    have := (hs.holds.mem b off u hb).1
    simp only [World.cell?, hc] at this
    simp at this
    exact (Array.getElem?_eq_some_iff.1 this).1
  have hvc : v.cells.toList = [v] := by cases v <;> first | rfl | (simp [Value.oneCell'] at hv)
  haveI : TyC P t ag [v].length := hT
  have hc' : w.heap[b]? = some (.cells cs.toList.toArray T (0, 0)) := by simpa using hc
  have hr := run_store_box (P := P) (t := t) (off := off) hc' (show off + 1 ≤ cs.toList.length by simp; omega) (by simpa using hv) hvc
  refine ⟨_, ?_, ⟨n, e, upd H b off v, M, L, D⟩, ⟨hs.defers, hs.size, hs.env, hs.holds.upd hb h0 hv hc'⟩, k⟩
  simp [execOp, hs.env.eval hx, hs.env.eval hy, hr]
theorem A_hle {F : Fence} {P : Program} {c : Ctx} {code : Code} {K R : SP} {X : List (Nat × SP)} {s : Sta} (h : HLe c.H0 s.H → wpA F P c code K X R s) : wpA F P c code K X R s := fun a w hs => h hs.holds.hle a w hs
theorem O_hle {F : Fence} {P : Program} {c : Ctx} {ops l : List Oper} {K : SP} {s : Sta} (h : HLe c.H0 s.H → opsA F P c ops l K s) : opsA F P c ops l K s := fun a w hs => h hs.holds.hle a w hs

/-- memory that differs from Hc in numbers alone -/
def Sim (Hc H : Hp) : Prop := ∀ b o v, Hc b o = some v → H b o = some v ∨ ∃ m m', v = .int .i64 m ∧ H b o = some (.int .i64 m')
theorem Sim.of_le {Hc H : Hp} (h : HLe Hc H) : Sim Hc H := fun b o v hv => .inl (h b o v hv)
theorem Sim.sl {Hc H : Hp} (h : Sim Hc H) {b o : Nat} {a : Option Addr} {n c : Nat} (hv : Hc b o = some (.slice a n c)) : H b o = some (.slice a n c) := by
  rcases h b o _ hv with h1 | ⟨m, m', h1, _⟩
  · exact h1
  · cases h1
theorem Sim.int {Hc H : Hp} (h : Sim Hc H) {b o : Nat} {m : Int} (hv : Hc b o = some (.int .i64 m)) : ∃ m', H b o = some (.int .i64 m') := by
  rcases h b o _ hv with h1 | ⟨m, m', h1, h2⟩
  · exact ⟨_, h1⟩
  · exact ⟨_, h2⟩
theorem Sim.upd {Hc H : Hp} (h : Sim Hc H) {b o : Nat} {m : Int} (hv : Hc b o = some (.int .i64 m)) (m' : Int) : Sim Hc (upd H b o (.int .i64 m')) := fun b' o' v' hv' => by
  by_cases hbo : b' = b ∧ o' = o
  · obtain ⟨rfl, rfl⟩ := hbo
    rw [hv] at hv'
    cases hv'
    exact .inr ⟨m, m', rfl, upd_self⟩
  · rw [upd_ne hbo]; exact h b' o' v' hv'
theorem Hd_upd {Hc H2 Hq : Hp} (h : HLe (Hd Hc H2) Hq) {b o : Nat} {u v : Value} (hv : Hc b o = some u) : HLe (Hd Hc H2) (upd Hq b o v) := fun b' o' v' hv' => by
  rw [upd_ne fun e => by rw [e.1, e.2] at hv'; have := (Hd_some.1 hv').1; rw [hv] at this; cases this]
  exact h _ _ _ hv'
attribute [local irreducible] wpA opsA drJ drQ drE Ef Ev Shift Fn
set_option maxHeartbeats 8000000 in
set_option maxRecDepth 100000 in
theorem RunClones_fn {H : Hp} {a : Option Addr} {n cq : Nat} {l : List Item} (hx0 : FlowH H a n cq l) (hm : massL l < 1073741824) :
    Fn Try.prog 10 [.slice a n cq] H [] fun v _ I' => v = .bool true ∧ I' = [] := by
  have hn := hx0.len
  have hml := massL_len l
  have hx := hx0
  have hq := HLe.refl H
  refine Fn_of _ _ Try.func10 rfl Try.ntmps10 rfl fun c => ?_
  repeat' (first | (refine O_ef rfl (Ef_call (I := []) WideF.wide known_fn trivial rfl ?_); rintro v H' I' hk ⟨rfl, rfl⟩; (try have hx := hx.mono hk); have hq := hq.trans hk) | (refine O_ef rfl (Ef_buildn WideF.wide (xs := [_]) (vs := [.slice _ _ _]) rfl ⟨rfl, trivial⟩ rfl rfl rfl rfl rfl rfl ?_); intro bl; refine O_freeze (ones_of rfl) ?_; intro H' hk hr; (try have hx := hx.mono hk); have hq := hq.trans hk; have hsm := Small_fn (ls := [l]) hr (.cons hx .nil) (by intro y hy; simp at hy; subst hy; omega) (by omega)) | (refine O_ef rfl (Ef_call (I := []) WideF.wide hsm ⟨rfl, trivial⟩ rfl ?_); rintro v H' I' hk ⟨⟨sb, rfl⟩, rfl, rfl⟩; cases sb; rotate_left; clear hsm; skip) | (refine O_hle ?_; intro h0; refine O_ef rfl (Ef_call (I := []) WideF.wide (Clone_fr hx (by omega)) ⟨rfl, trivial⟩ rfl ?_); rintro v H1 I' hk ⟨⟨ca, cn, cc, rfl, hcF⟩, rfl⟩; have hqa := hq; have hk1 := hk; have hp := Hd_of hcF; have hx := hx.mono hk; have hq := hq.trans hk; have e1 := rEqual_same (hcF.mono Hd_le) hx (by omega) rfl) | (refine O_ef rfl (Ef_callp WideF.wide e1 ⟨rfl, rfl, trivial⟩ rfl ?_)) | (refine O_ef rfl (Ef_call (I := []) WideF.wide (Copy_fr hx (by omega)) ⟨rfl, trivial⟩ rfl ?_); rintro v H2 I' hk ⟨⟨ba, bn, bc, rfl, hbF⟩, rfl⟩; have hk2 := hk; have hx := hx.mono hk; have hq := hq.trans hk) | refine O_nil ?_ | refine A_seq ?_ | refine A_region ?_ | refine A_skip ?_ | refine A_ret ?_ | refine A_block ?_ | (show opsA _ _ _ _ _ _ _; first | refine O_ev WideF.wide rfl (Ev_pure rfl) rfl rfl ?_ | (show opsA _ _ _ _ (⟨_, .unOp _ _ _, _, _, _, _⟩ :: _) _ _; refine O_ev WideF.wide rfl (Ev_notb rfl) rfl rfl ?_)) | (show wpA _ _ _ (.cond _ _ _) _ _ _ _; first | refine A_iftrue rfl ?_ | refine A_iffalse rfl ?_))
  rotate_left
  · exact End_e (Ret1 rfl rfl) ⟨rfl, rfl⟩
  obtain ⟨Hc, hHc⟩ := hp
  rw [← hHc] at hcF
  clear e1
  have hcz : ∀ b o v, Hc b o = some v → c.H0 b o = none := fun b o v hv => by
    subst hHc
    have h1 := (Hd_some.1 hv).1
    cases hb : c.H0 b o with
    | none => rfl
    | some u => have := h0 b o u hb; exact absurd (h1.symm.trans this) (by simp)
  have hxf : FlowH (Hd Hc H2) a n cq l := hx0.mono fun b o v hv => Hd_some.2 ⟨by
    subst hHc
    exact Hd_none (hqa b o v hv), hq b o v hv⟩
  have hc1 : HLe Hc H1 := by subst hHc; exact Hd_le
  have hbf : FlowH (Hd Hc H2) ba bn bc l := hbF.mono fun b o v hv => by
    obtain ⟨q1, q2⟩ := Hd_some.1 hv
    refine Hd_some.2 ⟨?_, q2⟩
    cases hb : Hc b o with
    | none => rfl
    | some u => rw [hc1 b o u hb] at q1; cases q1
  have hcl := hcF.len
  refine A_loopu (fun m s => ∃ (Hq : Hp) (i : Nat), m = cn - i ∧ i ≤ cn ∧ HLe (Hd Hc H2) Hq ∧ Sim Hc Hq ∧ s = ⟨190, [(0, .slice a n cq), (3, .slice ca cn cc), (4, .slice ba bn bc), (5, .int .i64 i)], Hq, [], [], []⟩) ?_ ?_
  · exact Shift.to ⟨_, _, 0, rfl, by omega, Hd_le, Sim.of_le (hc1.trans hk2), rfl⟩ ⟨rfl, rfl, rfl, ⟨rfl, rfl, rfl, rfl, trivial⟩, Own.sub_nil _⟩
  · rintro m s ⟨Hq, i, rfl, hi, hle, hs, rfl⟩
    by_cases hlt : i < cn
    · obtain ⟨b', o, cs, x, rfl, hxi, hxc, _, hc⟩ := hcF.at i hlt
      obtain ⟨pa, pn, pc, da, dn, dc, la, ln, lc, fa, fn, fc, ra, rn, rc, rfl, h1, h2, h3, h4, h5⟩ := hxc.cells
      have e1 : Hc b' (o + i * 11 + 1) = some (.int .i64 x.code) := hc 1 _ rfl
      have f4 : Hc b' (o + i * 11 + 4) = some (.slice pa pn pc) := hc 4 _ rfl
      have f7 : Hc b' (o + i * 11 + 7) = some (.slice da dn dc) := hc 7 _ rfl
      have f9 : Hc b' (o + i * 11 + 9) = some (.slice fa fn fc) := hc 9 _ rfl
      have f10 : Hc b' (o + i * 11 + 10) = some (.slice ra rn rc) := hc 10 _ rfl
      obtain ⟨m1, hE1⟩ := hs.int e1
      clear hc
      have hmm := massL_mem hxi
      have l1 := h1.len
      have l2 := h2.len
      have l3 := h3.len
      simp only [List.length_map] at l1 l2 l3
      have hhm : x.head.mass = x.head.props.length + x.head.dels.length + x.head.layers.length := rfl
      have l4 := h4.len
      have l5 := h5.len
      have l6 := massL_len x.flow
      have l7 := massR_len x.rows
      repeat' (first | (refine O_ev WideF.wide rfl (Ev_loadH1 rfl hE1) rfl rfl ?_) | (refine O_ef rfl (Ef_storeP WideF.wide rfl rfl rfl hE1 (hcz _ _ _ e1) ?_)) | refine O_nil ?_ | refine A_seq ?_ | refine A_region ?_ | refine A_skip ?_ | refine A_block ?_ | (show opsA _ _ _ _ _ _ _; first | refine O_ev WideF.wide rfl (Ev_pure rfl) rfl rfl ?_ | (show opsA _ _ _ _ (⟨_, .indexAddr _ _ _, _, _, _, _⟩ :: _) _ _; refine O_ev WideF.wide rfl (Ev_indexAddr rfl rfl (by omega) (by omega)) rfl rfl ?_) | (show opsA _ _ _ _ (⟨_, .fieldAddr _ _ _, _, _, _, _⟩ :: _) _ _; refine O_ev WideF.wide rfl (Ev_fieldAddr rfl rfl rfl) rfl rfl ?_) | (show opsA _ _ _ _ (⟨_, .call _, _, _, _, _⟩ :: _) _ _; refine O_ev WideF.wide rfl (Ev_llen rfl) rfl rfl ?_) | (show opsA _ _ _ _ (⟨_, .binOp _ _ _ _ _, _, _, _, _⟩ :: _) _ _; refine O_ev WideF.wide rfl (Ev_xor rfl rfl) rfl rfl ?_)) | (show wpA _ _ _ (.cond _ _ _) _ _ _ _; (refine A_if rfl (fun h => ?_) (fun h => ?_) <;> try (exfalso; omega))))
      replace hle := Hd_upd (v := .int .i64 (ixor .i64 m1 1)) hle e1
      replace hs := hs.upd e1 (ixor .i64 m1 1)
      refine A_loopu (fun m s => ∃ (Hq : Hp) (k : Nat), m = pn - k ∧ k ≤ pn ∧ HLe (Hd Hc H2) Hq ∧ Sim Hc Hq ∧ s = ⟨190, [(0, .slice a n cq), (3, .slice (some ⟨b', o, none⟩) cn cc), (4, .slice ba bn bc), (5, .int .i64 i), (6, .int .i64 k)], Hq, [], [], []⟩) ?_ ?_
      · exact Shift.to ⟨_, _, 0, rfl, by omega, hle, hs, rfl⟩ ⟨rfl, rfl, rfl, ⟨rfl, rfl, rfl, rfl, rfl, trivial⟩, Own.sub_nil _⟩
      · rintro m s ⟨Hq, k, rfl, hkn, hle, hs, rfl⟩
        have hS := hs.sl f4
        by_cases hkl : k < pn
        · obtain ⟨eb, eo, ecs, rfl, hek, _, hec⟩ := h1.at k hkl
          rw [List.getElem?_map, Option.map_eq_some_iff] at hek
          obtain ⟨p, _, rfl⟩ := hek
          have e2 := (show Hc eb (eo + k * 2 + 1) = some (.int .i64 p.val) from hec 1 _ rfl)
          obtain ⟨m2, hE2⟩ := hs.int e2
          repeat' (first | (refine A_drawi WideF.wide (.q 0 (.q 1 (.q 2 (.q 3 (.q 4 (.q 5 (.q 6 (.q 7 (.q 8 (.q 9 (.q 10 (.q 11 (.q 12 (.q 13 (.q 14 (.q 15 (.q 16 (.q 17 (.q 18 (.q 19 (.done [20]))))))))))))))))))))) [20] [] [] (by decide +kernel) (by decide) rfl ?_; simp only [Own.picks, Own.rget, List.cons_append, List.nil_append, List.append_nil]) | (refine O_ev WideF.wide rfl (Ev_loadH1 rfl hS) rfl rfl ?_) | (refine D_ev rfl (Ev_loadH1 rfl hS) rfl rfl ?_) | (refine D_ev rfl (Ev_loadH1 rfl hE2) rfl rfl ?_) | (refine O_ef rfl (Ef_storeP WideF.wide rfl rfl rfl hE2 (hcz _ _ _ e2) ?_)) | refine O_nil ?_ | refine A_seq ?_ | refine A_region ?_ | refine A_skip ?_ | refine A_block ?_ | (show drJ _ _ _ _ _ _ _ (.q _ _) _; refine D_q rfl ?_) | (show drJ _ _ _ _ _ _ _ (.done _) _; refine D_done ?_; simp only [List.cons_append, List.nil_append]) | (show drQ _ _ _ _ _ _; first | refine D_ev rfl (Ev_pure rfl) rfl rfl ?_ | (show drQ _ _ _ ⟨_, .indexAddr _ _ _, _, _, _, _⟩ _ _; refine D_ev rfl (Ev_indexAddr rfl rfl (by omega) (by omega)) rfl rfl ?_) | (show drQ _ _ _ ⟨_, .fieldAddr _ _ _, _, _, _, _⟩ _ _; refine D_ev rfl (Ev_fieldAddr rfl rfl rfl) rfl rfl ?_) | (show drQ _ _ _ ⟨_, .binOp _ _ _ _ _, _, _, _, _⟩ _ _; refine D_ev rfl (Ev_xor rfl rfl) rfl rfl ?_)) | (show opsA _ _ _ _ _ _ _; first | refine O_ev WideF.wide rfl (Ev_pure rfl) rfl rfl ?_ | (show opsA _ _ _ _ (⟨_, .indexAddr _ _ _, _, _, _, _⟩ :: _) _ _; refine O_ev WideF.wide rfl (Ev_indexAddr rfl rfl (by omega) (by omega)) rfl rfl ?_) | (show opsA _ _ _ _ (⟨_, .fieldAddr _ _ _, _, _, _, _⟩ :: _) _ _; refine O_ev WideF.wide rfl (Ev_fieldAddr rfl rfl rfl) rfl rfl ?_) | (show opsA _ _ _ _ (⟨_, .call _, _, _, _, _⟩ :: _) _ _; refine O_ev WideF.wide rfl (Ev_llen rfl) rfl rfl ?_) | (show opsA _ _ _ _ (⟨_, .binOp _ _ _ _ _, _, _, _, _⟩ :: _) _ _; refine O_ev WideF.wide rfl (Ev_add rfl rfl (wi64 (by omega))) rfl rfl ?_)) | (show wpA _ _ _ (.cond _ _ _) _ _ _ _; (refine A_if rfl (fun h => ?_) (fun h => ?_) <;> try (exfalso; omega))))
          refine Shift.to ⟨_, ?_, _, k + 1, rfl, by omega, Hd_upd hle e2, hs.upd e2 _, rfl⟩ ⟨rfl, rfl, rfl, ⟨rfl, rfl, rfl, rfl, rfl, trivial⟩, Own.sub_nil _⟩
          omega
        · have hkn' : k = pn := by omega
          subst hkn'
          repeat' (first | (refine O_ev WideF.wide rfl (Ev_loadH1 rfl hS) rfl rfl ?_) | refine O_nil ?_ | refine A_seq ?_ | refine A_region ?_ | refine A_block ?_ | (show opsA _ _ _ _ _ _ _; first | refine O_ev WideF.wide rfl (Ev_pure rfl) rfl rfl ?_ | (show opsA _ _ _ _ (⟨_, .indexAddr _ _ _, _, _, _, _⟩ :: _) _ _; refine O_ev WideF.wide rfl (Ev_indexAddr rfl rfl (by omega) (by omega)) rfl rfl ?_) | (show opsA _ _ _ _ (⟨_, .fieldAddr _ _ _, _, _, _, _⟩ :: _) _ _; refine O_ev WideF.wide rfl (Ev_fieldAddr rfl rfl rfl) rfl rfl ?_) | (show opsA _ _ _ _ (⟨_, .call _, _, _, _, _⟩ :: _) _ _; refine O_ev WideF.wide rfl (Ev_llen rfl) rfl rfl ?_)) | (show wpA _ _ _ (.exit _) _ _ _ _; refine A_exit rfl ?_) | (show wpA _ _ _ (.cond _ _ _) _ _ _ _; (refine A_if rfl (fun h => ?_) (fun h => ?_) <;> try (exfalso; omega))))
          refine A_loopu (fun m s => ∃ (Hq : Hp) (k : Nat), m = dn - k ∧ k ≤ dn ∧ HLe (Hd Hc H2) Hq ∧ Sim Hc Hq ∧ s = ⟨190, [(0, .slice a n cq), (3, .slice (some ⟨b', o, none⟩) cn cc), (4, .slice ba bn bc), (5, .int .i64 i), (7, .int .i64 k)], Hq, [], [], []⟩) ?_ ?_
          · exact Shift.to ⟨_, _, 0, rfl, by omega, hle, hs, rfl⟩ ⟨rfl, rfl, rfl, ⟨rfl, rfl, rfl, rfl, rfl, trivial⟩, Own.sub_nil _⟩
          · rintro m s ⟨Hq, k, rfl, hkn, hle, hs, rfl⟩
            have hS := hs.sl f7
            by_cases hkl : k < dn
            · obtain ⟨eb, eo, ecs, rfl, hek, _, hec⟩ := h2.at k hkl
              rw [List.getElem?_map, Option.map_eq_some_iff] at hek
              obtain ⟨p, _, rfl⟩ := hek
              have e2 := (show Hc eb (eo + k * 2 + 0) = some (.int .i64 p.rev) from hec 0 _ rfl)
              obtain ⟨m2, hE2⟩ := hs.int e2
              repeat' (first | (refine A_drawi WideF.wide (.q 0 (.q 1 (.q 2 (.q 3 (.q 4 (.q 5 (.q 6 (.q 7 (.q 8 (.q 9 (.q 10 (.q 11 (.q 12 (.q 13 (.q 14 (.q 15 (.q 16 (.q 17 (.q 18 (.q 19 (.q 20 (.q 21 (.done [22]))))))))))))))))))))))) [22] [] [] (by decide +kernel) (by decide) rfl ?_; simp only [Own.picks, Own.rget, List.cons_append, List.nil_append, List.append_nil]) | (refine O_ev WideF.wide rfl (Ev_loadH1 rfl hS) rfl rfl ?_) | (refine D_ev rfl (Ev_loadH1 rfl hS) rfl rfl ?_) | (refine D_ev rfl (Ev_loadH1 rfl hE2) rfl rfl ?_) | (refine O_ef rfl (Ef_storeP WideF.wide rfl rfl rfl hE2 (hcz _ _ _ e2) ?_)) | refine O_nil ?_ | refine A_seq ?_ | refine A_region ?_ | refine A_skip ?_ | refine A_block ?_ | (show drJ _ _ _ _ _ _ _ (.q _ _) _; refine D_q rfl ?_) | (show drJ _ _ _ _ _ _ _ (.done _) _; refine D_done ?_; simp only [List.cons_append, List.nil_append]) | (show drQ _ _ _ _ _ _; first | refine D_ev rfl (Ev_pure rfl) rfl rfl ?_ | (show drQ _ _ _ ⟨_, .indexAddr _ _ _, _, _, _, _⟩ _ _; refine D_ev rfl (Ev_indexAddr rfl rfl (by omega) (by omega)) rfl rfl ?_) | (show drQ _ _ _ ⟨_, .fieldAddr _ _ _, _, _, _, _⟩ _ _; refine D_ev rfl (Ev_fieldAddr rfl rfl rfl) rfl rfl ?_) | (show drQ _ _ _ ⟨_, .binOp _ _ _ _ _, _, _, _, _⟩ _ _; refine D_ev rfl (Ev_xor rfl rfl) rfl rfl ?_)) | (show opsA _ _ _ _ _ _ _; first | refine O_ev WideF.wide rfl (Ev_pure rfl) rfl rfl ?_ | (show opsA _ _ _ _ (⟨_, .indexAddr _ _ _, _, _, _, _⟩ :: _) _ _; refine O_ev WideF.wide rfl (Ev_indexAddr rfl rfl (by omega) (by omega)) rfl rfl ?_) | (show opsA _ _ _ _ (⟨_, .fieldAddr _ _ _, _, _, _, _⟩ :: _) _ _; refine O_ev WideF.wide rfl (Ev_fieldAddr rfl rfl rfl) rfl rfl ?_) | (show opsA _ _ _ _ (⟨_, .call _, _, _, _, _⟩ :: _) _ _; refine O_ev WideF.wide rfl (Ev_llen rfl) rfl rfl ?_) | (show opsA _ _ _ _ (⟨_, .binOp _ _ _ _ _, _, _, _, _⟩ :: _) _ _; refine O_ev WideF.wide rfl (Ev_add rfl rfl (wi64 (by omega))) rfl rfl ?_)) | (show wpA _ _ _ (.cond _ _ _) _ _ _ _; (refine A_if rfl (fun h => ?_) (fun h => ?_) <;> try (exfalso; omega))))
              refine Shift.to ⟨_, ?_, _, k + 1, rfl, by omega, Hd_upd hle e2, hs.upd e2 _, rfl⟩ ⟨rfl, rfl, rfl, ⟨rfl, rfl, rfl, rfl, rfl, trivial⟩, Own.sub_nil _⟩
              omega
            · have hkn' : k = dn := by omega
              subst hkn'
              repeat' (first | (refine O_ev WideF.wide rfl (Ev_loadH1 rfl hS) rfl rfl ?_) | refine O_nil ?_ | refine A_seq ?_ | refine A_region ?_ | refine A_block ?_ | (show opsA _ _ _ _ _ _ _; first | refine O_ev WideF.wide rfl (Ev_pure rfl) rfl rfl ?_ | (show opsA _ _ _ _ (⟨_, .indexAddr _ _ _, _, _, _, _⟩ :: _) _ _; refine O_ev WideF.wide rfl (Ev_indexAddr rfl rfl (by omega) (by omega)) rfl rfl ?_) | (show opsA _ _ _ _ (⟨_, .fieldAddr _ _ _, _, _, _, _⟩ :: _) _ _; refine O_ev WideF.wide rfl (Ev_fieldAddr rfl rfl rfl) rfl rfl ?_) | (show opsA _ _ _ _ (⟨_, .call _, _, _, _, _⟩ :: _) _ _; refine O_ev WideF.wide rfl (Ev_llen rfl) rfl rfl ?_)) | (show wpA _ _ _ (.exit _) _ _ _ _; refine A_exit rfl ?_) | (show wpA _ _ _ (.cond _ _ _) _ _ _ _; (refine A_if rfl (fun h => ?_) (fun h => ?_) <;> try (exfalso; omega))))
              refine A_loopu (fun m s => ∃ (Hq : Hp) (k : Nat), m = fn - k ∧ k ≤ fn ∧ HLe (Hd Hc H2) Hq ∧ Sim Hc Hq ∧ s = ⟨190, [(0, .slice a n cq), (3, .slice (some ⟨b', o, none⟩) cn cc), (4, .slice ba bn bc), (5, .int .i64 i), (8, .int .i64 k)], Hq, [], [], []⟩) ?_ ?_
              · exact Shift.to ⟨_, _, 0, rfl, by omega, hle, hs, rfl⟩ ⟨rfl, rfl, rfl, ⟨rfl, rfl, rfl, rfl, rfl, trivial⟩, Own.sub_nil _⟩
              · rintro m s ⟨Hq, k, rfl, hkn, hle, hs, rfl⟩
                have hS := hs.sl f9
                by_cases hkl : k < fn
                · obtain ⟨eb, eo, ecs, y, rfl, hyj, hyc, _, hec⟩ := h4.at k hkl
                  obtain ⟨_, _, _, _, _, _, _, _, _, _, _, _, _, _, _, rfl, _⟩ := hyc.cells
                  have e2 := (show Hc eb (eo + k * 11 + 2) = some (.int .i64 y.id) from hec 2 _ rfl)
                  obtain ⟨m2, hE2⟩ := hs.int e2
                  repeat' (first | (refine A_drawi WideF.wide (.q 0 (.q 1 (.q 2 (.q 3 (.q 4 (.q 5 (.q 6 (.q 7 (.q 8 (.q 9 (.q 10 (.q 11 (.q 12 (.q 13 (.q 14 (.q 15 (.q 16 (.q 17 (.done [18]))))))))))))))))))) [18] [] [] (by decide +kernel) (by decide) rfl ?_; simp only [Own.picks, Own.rget, List.cons_append, List.nil_append, List.append_nil]) | (refine O_ev WideF.wide rfl (Ev_loadH1 rfl hS) rfl rfl ?_) | (refine D_ev rfl (Ev_loadH1 rfl hS) rfl rfl ?_) | (refine D_ev rfl (Ev_loadH1 rfl hE2) rfl rfl ?_) | (refine O_ef rfl (Ef_storeP WideF.wide rfl rfl rfl hE2 (hcz _ _ _ e2) ?_)) | refine O_nil ?_ | refine A_seq ?_ | refine A_region ?_ | refine A_skip ?_ | refine A_block ?_ | (show drJ _ _ _ _ _ _ _ (.q _ _) _; refine D_q rfl ?_) | (show drJ _ _ _ _ _ _ _ (.done _) _; refine D_done ?_; simp only [List.cons_append, List.nil_append]) | (show drQ _ _ _ _ _ _; first | refine D_ev rfl (Ev_pure rfl) rfl rfl ?_ | (show drQ _ _ _ ⟨_, .indexAddr _ _ _, _, _, _, _⟩ _ _; refine D_ev rfl (Ev_indexAddr rfl rfl (by omega) (by omega)) rfl rfl ?_) | (show drQ _ _ _ ⟨_, .fieldAddr _ _ _, _, _, _, _⟩ _ _; refine D_ev rfl (Ev_fieldAddr rfl rfl rfl) rfl rfl ?_) | (show drQ _ _ _ ⟨_, .binOp _ _ _ _ _, _, _, _, _⟩ _ _; refine D_ev rfl (Ev_xor rfl rfl) rfl rfl ?_)) | (show opsA _ _ _ _ _ _ _; first | refine O_ev WideF.wide rfl (Ev_pure rfl) rfl rfl ?_ | (show opsA _ _ _ _ (⟨_, .indexAddr _ _ _, _, _, _, _⟩ :: _) _ _; refine O_ev WideF.wide rfl (Ev_indexAddr rfl rfl (by omega) (by omega)) rfl rfl ?_) | (show opsA _ _ _ _ (⟨_, .fieldAddr _ _ _, _, _, _, _⟩ :: _) _ _; refine O_ev WideF.wide rfl (Ev_fieldAddr rfl rfl rfl) rfl rfl ?_) | (show opsA _ _ _ _ (⟨_, .call _, _, _, _, _⟩ :: _) _ _; refine O_ev WideF.wide rfl (Ev_llen rfl) rfl rfl ?_) | (show opsA _ _ _ _ (⟨_, .binOp _ _ _ _ _, _, _, _, _⟩ :: _) _ _; refine O_ev WideF.wide rfl (Ev_add rfl rfl (wi64 (by omega))) rfl rfl ?_)) | (show wpA _ _ _ (.cond _ _ _) _ _ _ _; (refine A_if rfl (fun h => ?_) (fun h => ?_) <;> try (exfalso; omega))))
                  refine Shift.to ⟨_, ?_, _, k + 1, rfl, by omega, Hd_upd hle e2, hs.upd e2 _, rfl⟩ ⟨rfl, rfl, rfl, ⟨rfl, rfl, rfl, rfl, rfl, trivial⟩, Own.sub_nil _⟩
                  omega
                · have hkn' : k = fn := by omega
                  subst hkn'
                  repeat' (first | (refine O_ev WideF.wide rfl (Ev_loadH1 rfl hS) rfl rfl ?_) | refine O_nil ?_ | refine A_seq ?_ | refine A_region ?_ | refine A_block ?_ | (show opsA _ _ _ _ _ _ _; first | refine O_ev WideF.wide rfl (Ev_pure rfl) rfl rfl ?_ | (show opsA _ _ _ _ (⟨_, .indexAddr _ _ _, _, _, _, _⟩ :: _) _ _; refine O_ev WideF.wide rfl (Ev_indexAddr rfl rfl (by omega) (by omega)) rfl rfl ?_) | (show opsA _ _ _ _ (⟨_, .fieldAddr _ _ _, _, _, _, _⟩ :: _) _ _; refine O_ev WideF.wide rfl (Ev_fieldAddr rfl rfl rfl) rfl rfl ?_) | (show opsA _ _ _ _ (⟨_, .call _, _, _, _, _⟩ :: _) _ _; refine O_ev WideF.wide rfl (Ev_llen rfl) rfl rfl ?_)) | (show wpA _ _ _ (.exit _) _ _ _ _; refine A_exit rfl ?_) | (show wpA _ _ _ (.cond _ _ _) _ _ _ _; (refine A_if rfl (fun h => ?_) (fun h => ?_) <;> try (exfalso; omega))))
                  refine A_loopu (fun m s => ∃ (Hq : Hp) (k : Nat), m = rn - k ∧ k ≤ rn ∧ HLe (Hd Hc H2) Hq ∧ Sim Hc Hq ∧ s = ⟨190, [(0, .slice a n cq), (3, .slice (some ⟨b', o, none⟩) cn cc), (4, .slice ba bn bc), (5, .int .i64 i), (9, .int .i64 k)], Hq, [], [], []⟩) ?_ ?_
                  · exact Shift.to ⟨_, _, 0, rfl, by omega, hle, hs, rfl⟩ ⟨rfl, rfl, rfl, ⟨rfl, rfl, rfl, rfl, rfl, trivial⟩, Own.sub_nil _⟩
                  · rintro m s ⟨Hq, k, rfl, hkn, hle, hs, rfl⟩
                    have hS := hs.sl f10
                    by_cases hkl : k < rn
                    · obtain ⟨rb, ro, rcs, r, rfl, hri, hrc, _, hrH⟩ := h5.at k hkl
                      obtain ⟨_, _, _, _, _, _, _, _, _, za, zn, zc, rfl, _, _, _, g4⟩ := hrc.cells
                      have hrmm := massR_mem hri
                      have l8 := g4.len
                      have l9 := massC_len r.2
                      have f5 : Hc rb (ro + k * 6 + 5) = some (.slice za zn zc) := hrH 5 _ rfl
                      repeat' (first | (refine O_ev WideF.wide rfl (Ev_loadH1 rfl hS) rfl rfl ?_) | refine O_nil ?_ | refine A_seq ?_ | refine A_region ?_ | refine A_skip ?_ | refine A_block ?_ | (show opsA _ _ _ _ _ _ _; first | refine O_ev WideF.wide rfl (Ev_pure rfl) rfl rfl ?_ | (show opsA _ _ _ _ (⟨_, .indexAddr _ _ _, _, _, _, _⟩ :: _) _ _; refine O_ev WideF.wide rfl (Ev_indexAddr rfl rfl (by omega) (by omega)) rfl rfl ?_) | (show opsA _ _ _ _ (⟨_, .fieldAddr _ _ _, _, _, _, _⟩ :: _) _ _; refine O_ev WideF.wide rfl (Ev_fieldAddr rfl rfl rfl) rfl rfl ?_) | (show opsA _ _ _ _ (⟨_, .call _, _, _, _, _⟩ :: _) _ _; refine O_ev WideF.wide rfl (Ev_llen rfl) rfl rfl ?_)) | (show wpA _ _ _ (.cond _ _ _) _ _ _ _; (refine A_if rfl (fun h => ?_) (fun h => ?_) <;> try (exfalso; omega))))
                      refine A_loopu (fun m s => ∃ (Hq : Hp) (j : Nat), m = zn - j ∧ j ≤ zn ∧ HLe (Hd Hc H2) Hq ∧ Sim Hc Hq ∧ s = ⟨190, [(0, .slice a n cq), (3, .slice (some ⟨b', o, none⟩) cn cc), (4, .slice ba bn bc), (5, .int .i64 i), (9, .int .i64 k), (10, .int .i64 j)], Hq, [], [], []⟩) ?_ ?_
                      · exact Shift.to ⟨_, _, 0, rfl, by omega, hle, hs, rfl⟩ ⟨rfl, rfl, rfl, ⟨rfl, rfl, rfl, rfl, rfl, rfl, trivial⟩, Own.sub_nil _⟩
                      · rintro m s ⟨Hq, j, rfl, hjn, hle, hs, rfl⟩
                        have hS := hs.sl f10
                        have hT := hs.sl f5
                        by_cases hjl : j < zn
                        · obtain ⟨eb, eo, ecs, y, rfl, hyj, hyc, _, hec⟩ := g4.at j hjl
                          obtain ⟨_, _, _, _, _, _, _, _, _, _, _, _, rfl, _⟩ := hyc.cells
                          have e2 : Hc eb (eo + j * 7 + 0) = some (.int .i64 y.1) := hec 0 _ rfl
                          obtain ⟨m2, hE2⟩ := hs.int e2
                          repeat' (first | (refine A_drawi WideF.wide (.q 0 (.q 1 (.q 2 (.q 3 (.q 4 (.q 5 (.q 6 (.q 7 (.q 8 (.q 9 (.q 10 (.q 11 (.q 12 (.q 13 (.q 14 (.q 15 (.q 16 (.q 17 (.q 18 (.q 19 (.q 20 (.q 21 (.q 22 (.q 23 (.q 24 (.q 25 (.done [26]))))))))))))))))))))))))))) [26] [] [] (by decide +kernel) (by decide) rfl ?_; simp only [Own.picks, Own.rget, List.cons_append, List.nil_append, List.append_nil]) | (refine O_ev WideF.wide rfl (Ev_loadH1 rfl hS) rfl rfl ?_) | (refine D_ev rfl (Ev_loadH1 rfl hS) rfl rfl ?_) | (refine O_ev WideF.wide rfl (Ev_loadH1 rfl hT) rfl rfl ?_) | (refine D_ev rfl (Ev_loadH1 rfl hT) rfl rfl ?_) | (refine D_ev rfl (Ev_loadH1 rfl hE2) rfl rfl ?_) | (refine O_ef rfl (Ef_storeP WideF.wide rfl rfl rfl hE2 (hcz _ _ _ e2) ?_)) | refine O_nil ?_ | refine A_seq ?_ | refine A_region ?_ | refine A_skip ?_ | refine A_block ?_ | (show drJ _ _ _ _ _ _ _ (.q _ _) _; refine D_q rfl ?_) | (show drJ _ _ _ _ _ _ _ (.done _) _; refine D_done ?_; simp only [List.cons_append, List.nil_append]) | (show drQ _ _ _ _ _ _; first | refine D_ev rfl (Ev_pure rfl) rfl rfl ?_ | (show drQ _ _ _ ⟨_, .indexAddr _ _ _, _, _, _, _⟩ _ _; refine D_ev rfl (Ev_indexAddr rfl rfl (by omega) (by omega)) rfl rfl ?_) | (show drQ _ _ _ ⟨_, .fieldAddr _ _ _, _, _, _, _⟩ _ _; refine D_ev rfl (Ev_fieldAddr rfl rfl rfl) rfl rfl ?_) | (show drQ _ _ _ ⟨_, .binOp _ _ _ _ _, _, _, _, _⟩ _ _; refine D_ev rfl (Ev_xor rfl rfl) rfl rfl ?_)) | (show opsA _ _ _ _ _ _ _; first | refine O_ev WideF.wide rfl (Ev_pure rfl) rfl rfl ?_ | (show opsA _ _ _ _ (⟨_, .indexAddr _ _ _, _, _, _, _⟩ :: _) _ _; refine O_ev WideF.wide rfl (Ev_indexAddr rfl rfl (by omega) (by omega)) rfl rfl ?_) | (show opsA _ _ _ _ (⟨_, .fieldAddr _ _ _, _, _, _, _⟩ :: _) _ _; refine O_ev WideF.wide rfl (Ev_fieldAddr rfl rfl rfl) rfl rfl ?_) | (show opsA _ _ _ _ (⟨_, .call _, _, _, _, _⟩ :: _) _ _; refine O_ev WideF.wide rfl (Ev_llen rfl) rfl rfl ?_) | (show opsA _ _ _ _ (⟨_, .binOp _ _ _ _ _, _, _, _, _⟩ :: _) _ _; refine O_ev WideF.wide rfl (Ev_add rfl rfl (wi64 (by omega))) rfl rfl ?_)) | (show wpA _ _ _ (.cond _ _ _) _ _ _ _; (refine A_if rfl (fun h => ?_) (fun h => ?_) <;> try (exfalso; omega))))
                          refine Shift.to ⟨_, ?_, _, j + 1, rfl, by omega, Hd_upd hle e2, hs.upd e2 _, rfl⟩ ⟨rfl, rfl, rfl, ⟨rfl, rfl, rfl, rfl, rfl, rfl, trivial⟩, Own.sub_nil _⟩
                          omega
                        · have hjn' : j = zn := by omega
                          subst hjn'
                          repeat' (first | (refine O_ev WideF.wide rfl (Ev_loadH1 rfl hS) rfl rfl ?_) | (refine O_ev WideF.wide rfl (Ev_loadH1 rfl hT) rfl rfl ?_) | refine O_nil ?_ | refine A_seq ?_ | refine A_region ?_ | (show opsA _ _ _ _ _ _ _; first | refine O_ev WideF.wide rfl (Ev_pure rfl) rfl rfl ?_ | (show opsA _ _ _ _ (⟨_, .indexAddr _ _ _, _, _, _, _⟩ :: _) _ _; refine O_ev WideF.wide rfl (Ev_indexAddr rfl rfl (by omega) (by omega)) rfl rfl ?_) | (show opsA _ _ _ _ (⟨_, .fieldAddr _ _ _, _, _, _, _⟩ :: _) _ _; refine O_ev WideF.wide rfl (Ev_fieldAddr rfl rfl rfl) rfl rfl ?_) | (show opsA _ _ _ _ (⟨_, .call _, _, _, _, _⟩ :: _) _ _; refine O_ev WideF.wide rfl (Ev_llen rfl) rfl rfl ?_) | (show opsA _ _ _ _ (⟨_, .binOp _ _ _ _ _, _, _, _, _⟩ :: _) _ _; refine O_ev WideF.wide rfl (Ev_add rfl rfl (wi64 (by omega))) rfl rfl ?_)) | (show wpA _ _ _ (.exit _) _ _ _ _; refine A_exit rfl ?_) | (show wpA _ _ _ (.cond _ _ _) _ _ _ _; (refine A_if rfl (fun h => ?_) (fun h => ?_) <;> try (exfalso; omega))))
                          refine Shift.to ⟨_, ?_, _, k + 1, rfl, by omega, hle, hs, rfl⟩ ⟨rfl, rfl, rfl, ⟨rfl, rfl, rfl, rfl, rfl, trivial⟩, Own.sub_nil _⟩
                          omega
                    · have hkn' : k = rn := by omega
                      subst hkn'
                      repeat' (first | (refine O_ev WideF.wide rfl (Ev_loadH1 rfl hS) rfl rfl ?_) | refine O_nil ?_ | refine A_seq ?_ | refine A_region ?_ | (show opsA _ _ _ _ _ _ _; first | refine O_ev WideF.wide rfl (Ev_pure rfl) rfl rfl ?_ | (show opsA _ _ _ _ (⟨_, .indexAddr _ _ _, _, _, _, _⟩ :: _) _ _; refine O_ev WideF.wide rfl (Ev_indexAddr rfl rfl (by omega) (by omega)) rfl rfl ?_) | (show opsA _ _ _ _ (⟨_, .fieldAddr _ _ _, _, _, _, _⟩ :: _) _ _; refine O_ev WideF.wide rfl (Ev_fieldAddr rfl rfl rfl) rfl rfl ?_) | (show opsA _ _ _ _ (⟨_, .call _, _, _, _, _⟩ :: _) _ _; refine O_ev WideF.wide rfl (Ev_llen rfl) rfl rfl ?_) | (show opsA _ _ _ _ (⟨_, .binOp _ _ _ _ _, _, _, _, _⟩ :: _) _ _; refine O_ev WideF.wide rfl (Ev_add rfl rfl (wi64 (by omega))) rfl rfl ?_)) | (show wpA _ _ _ (.exit _) _ _ _ _; refine A_exit rfl ?_) | (show wpA _ _ _ (.cond _ _ _) _ _ _ _; (refine A_if rfl (fun h => ?_) (fun h => ?_) <;> try (exfalso; omega))))
                      refine Shift.to ⟨_, ?_, _, i + 1, rfl, by omega, hle, hs, rfl⟩ ⟨rfl, rfl, rfl, ⟨rfl, rfl, rfl, rfl, trivial⟩, Own.sub_nil _⟩
                      omega
    · have hin : i = cn := by omega
      subst hin
      have e1 := rEqual_same (hbf.mono hle) (hxf.mono hle) (by omega) rfl
      repeat' (first | (refine O_ef rfl (Ef_callp WideF.wide e1 ⟨rfl, rfl, trivial⟩ rfl ?_)) | refine O_nil ?_ | refine A_seq ?_ | refine A_region ?_ | refine A_ret ?_ | (show opsA _ _ _ _ _ _ _; first | refine O_ev WideF.wide rfl (Ev_pure rfl) rfl rfl ?_ | (show opsA _ _ _ _ (⟨_, .call _, _, _, _, _⟩ :: _) _ _; refine O_ev WideF.wide rfl (Ev_llen rfl) rfl rfl ?_)) | (show wpA _ _ _ (.exit _) _ _ _ _; refine A_exit rfl ?_) | (show wpA _ _ _ (.cond _ _ _) _ _ _ _; (refine A_if rfl (fun h => ?_) (fun h => ?_) <;> try (exfalso; omega))))
      exact End_e (Ret1 rfl rfl) ⟨rfl, rfl⟩
end Go.Proofs.Ythbnhcgphkghaaa
