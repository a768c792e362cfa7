/-
  What a verdict makes of a head, as data; the closures of mark.decide, slices.IndexFunc and ContainsFunc at []Del.
-/
import Derived.Test.YthniohgeojenaaaM7
namespace Go.Proofs.Ythniohgeojenaaa
open Go
set_option linter.unusedVariables false
set_option linter.unusedSimpArgs false
/-! ### as data -/
/-- one behind the last layer whose revision is accepted -/
def firstA (p : Int → Bool) : List Layr → Nat
  | [] => 0
  | y :: r => if firstA p r ≠ 0 then firstA p r + 1 else if p y.rev then 1 else 0
theorem firstA_le (p : Int → Bool) : ∀ l : List Layr, firstA p l ≤ l.length
  | [] => Nat.le_refl _
  | y :: r => by have := firstA_le p r; rw [firstA]; split; · simp; omega
                 split <;> simp
theorem firstA_snoc (p : Int → Bool) (y : Layr) : ∀ l : List Layr, firstA p (l ++ [y]) = if p y.rev then l.length + 1 else firstA p l
  | [] => by simp [firstA]
  | z :: r => by
    have ih := firstA_snoc p y r
    rw [List.cons_append, firstA, ih, firstA]
    by_cases h : p y.rev = true
    · simp [h]
    · simp [h]
/-- the state before the first of some layers: the last one where there is none -/
def nxt (p : St) : List Layr → St
  | [] => p
  | z :: _ => z.st
theorem states_at (p : St) (l : List Layr) (k : Nat) (hk : k ≤ l.length) : (l.map Layr.st ++ [p])[k]? = some (nxt p (l.drop k)) := by
  by_cases h : k < l.length
  · rw [List.getElem?_append_left (by simpa using h), List.getElem?_map, List.getElem?_eq_getElem h]
    rw [List.drop_eq_getElem_cons h]; rfl
  · have : k = l.length := by omega
    subst this
    rw [List.getElem?_append_right (by simp)]; simp [nxt]
/-- the layers that stay, and the present state -/
def walkG (rej : Int → Bool) (p : St) : St → List Layr → St × List Layr
  | now, [] => (now, [])
  | now, y :: r => if rej y.rev then walkG rej p now r else ((walkG rej p (nxt p r) r).1, y.put now :: (walkG rej p (nxt p r) r).2)
def stepG (acc rej : Int → Bool) (p : St) (g : List Layr) : St × List Layr := walkG rej p (nxt p (g.drop (firstA acc g))) (g.drop (firstA acc g))
theorem grp_le (k : Int) : ∀ l : List Layr, grp k l ≤ l.length
  | [] => Nat.le_refl _
  | y :: r => by have := grp_le k r; rw [grp]; split <;> simp <;> omega
def decL (acc rej : Int → Bool) (pr0 : List Prp) (l : List Layr) (pr : List Prp) (out : List Layr) : List Prp × List Layr :=
  match l with
  | [] => (pr, out)
  | y :: r => decL acc rej pr0 (r.drop (grp y.key r)) (withP pr y.key (stepG acc rej (getP pr0 y.key) (y :: r.take (grp y.key r))).1) (out ++ (stepG acc rej (getP pr0 y.key) (y :: r.take (grp y.key r))).2)
termination_by l.length
decreasing_by simp; omega
theorem decL_nil (acc rej : Int → Bool) (pr0 pr : List Prp) (out : List Layr) : decL acc rej pr0 [] pr out = (pr, out) := by rw [decL]
theorem decL_step {acc rej : Int → Bool} {pr0 : List Prp} {l : List Layr} {y : Layr} {m : Nat} (hy : l[0]? = some y) (hm : grp y.key l = m) (pr : List Prp) (out : List Layr) :
    decL acc rej pr0 l pr out = decL acc rej pr0 (l.drop m) (withP pr y.key (stepG acc rej (getP pr0 y.key) (l.take m)).1) (out ++ (stepG acc rej (getP pr0 y.key) (l.take m)).2) := by
  cases l with
  | nil => simp at hy
  | cons z r =>
    simp at hy; subst hy
    rw [grp, if_pos rfl] at hm
    subst hm
    rw [decL]; rfl
def Head.none : Head := ⟨[], 0, 0, [], []⟩
def goneB (acc rej : Int → Bool) (h : Head) : Bool := (decide (h.ins ≠ 0) && rej h.ins) || h.dels.any (fun d => acc d.rev)
def decH (acc rej : Int → Bool) (h : Head) : Head :=
  if goneB acc rej h then Head.none
  else ⟨(decL acc rej h.props h.layers h.props []).1, if decide (h.ins ≠ 0) && acc h.ins then 0 else h.ins, if decide (h.ins ≠ 0) && acc h.ins then 0 else h.move, h.dels.filter (fun d => !rej d.rev), (decL acc rej h.props h.layers h.props []).2⟩
attribute [local irreducible] wpA opsA drJ drQ drE Ef Ev Shift Fn
/-- a function that gives a verdict -/
def Verd (vf : FuncId) (caps : List Value) (H : Hp) (acc rej : Int → Bool) : Prop :=
  ∀ H', HLe H H' → ∀ rev, FnP Try.prog vf (.int .i64 rev :: caps) H' (.tuple [.bool (acc rev), .bool (rej rev)].toArray)
theorem Verd.mono {vf : FuncId} {caps : List Value} {H H1 : Hp} {acc rej : Int → Bool} (h : Verd vf caps H acc rej) (hle : HLe H H1) : Verd vf caps H1 acc rej := fun H' h' => h H' (hle.trans h')
abbrev fv (f : FuncId) (caps : List Value) : Value := .func (.func f) #[] caps.toArray
abbrev ptr (b : Nat) : Value := .pointer (some ⟨b, 0, none⟩)
section
variable {vf : FuncId} {caps : List Value} {acc rej : Int → Bool} [hvf : FunC Try.prog vf]
set_option maxRecDepth 100000 in
theorem dec1_fn {H : Hp} {b : Nat} (hb : H b 0 = some (fv vf caps)) (hv : Verd vf caps H acc rej) (rev : Int) : FnP Try.prog 77 [.int .i64 rev, ptr b] H (.bool (acc rev)) := by
  refine Fn_of _ _ Try.func77 rfl Try.ntmps77 rfl fun c => ?_
  repeat' (first | (refine O_ev WideF.wide rfl (Ev_loadH1 rfl hb) rfl rfl ?_) | (refine O_ef rfl (Ef_callcp (args := [_]) WideF.wide (hv _ (HLe.refl _) rev) rfl ⟨rfl, trivial⟩ rfl ?_)) | refine O_nil ?_ | refine A_seq ?_ | refine A_region ?_ | refine A_ret ?_ | (show opsA _ _ _ _ _ _ _; refine O_ev WideF.wide rfl (Ev_pure rfl) rfl rfl ?_))
  exact End_p (Ret1 rfl rfl) rfl
set_option maxRecDepth 100000 in
theorem dec2_fn {H : Hp} {b : Nat} (hb : H b 0 = some (fv vf caps)) (hv : Verd vf caps H acc rej) (rev : Int) : FnP Try.prog 78 [.int .i64 rev, ptr b] H (.bool (rej rev)) := by
  refine Fn_of _ _ Try.func78 rfl Try.ntmps78 rfl fun c => ?_
  repeat' (first | (refine O_ev WideF.wide rfl (Ev_loadH1 rfl hb) rfl rfl ?_) | (refine O_ef rfl (Ef_callcp (args := [_]) WideF.wide (hv _ (HLe.refl _) rev) rfl ⟨rfl, trivial⟩ rfl ?_)) | refine O_nil ?_ | refine A_seq ?_ | refine A_region ?_ | refine A_ret ?_ | (show opsA _ _ _ _ _ _ _; refine O_ev WideF.wide rfl (Ev_pure rfl) rfl rfl ?_))
  exact End_p (Ret1 rfl rfl) rfl
set_option maxRecDepth 100000 in
theorem dec3_fn {H : Hp} {b b6 : Nat} (hb : H b 0 = some (fv vf caps)) (hb6 : H b6 0 = some (fv 77 [ptr b])) (hv : Verd vf caps H acc rej) (d : Dele) : FnP Try.prog 80 [.agg (drow d).toArray, ptr b6] H (.bool (acc d.rev)) := by
  have h1 := dec1_fn hb hv d.rev
  unfold drow
  refine Fn_of _ _ Try.func80 rfl Try.ntmps80 rfl fun c => ?_
  repeat' (first | (refine O_ev WideF.wide rfl (Ev_loadH1 rfl hb6) rfl rfl ?_) | (refine O_ef rfl (Ef_callcp (args := [_]) WideF.wide h1 rfl ⟨rfl, trivial⟩ rfl ?_)) | refine O_nil ?_ | refine A_seq ?_ | refine A_region ?_ | refine A_ret ?_ | (show opsA _ _ _ _ _ _ _; first | refine O_ev WideF.wide rfl (Ev_pure rfl) rfl rfl ?_ | (show opsA _ _ _ _ (⟨_, .load _ _, _, _, _, _⟩ :: _) _ _; refine O_ev WideF.wide rfl (Ev_loadB1 (i := 0) rfl rfl rfl) rfl rfl ?_) | (show opsA _ _ _ _ (⟨_, .fieldAddr _ _ _, _, _, _, _⟩ :: _) _ _; refine O_ev WideF.wide rfl (Ev_fieldAddr rfl rfl rfl) rfl rfl ?_) | (show opsA _ _ _ _ (⟨_, .box _ _, _, _, _, _⟩ :: _) _ _; (refine O_ef rfl (Ef_boxa WideF.wide rfl rfl ?_); intro b))))
  exact End_p (Ret1 rfl rfl) rfl
end
section
variable {gf : FuncId} {caps : List Value} {p : Dele → Bool} [hgf : FunC Try.prog gf]
set_option maxRecDepth 100000 in
theorem idxDele_fn {H : Hp} {a : Option Addr} {n cq : Nat} {l : List Dele} (hx : HRow H a n cq 2 (l.map drow)) (hm : n < 68719476736) (hg : ∀ d, FnP Try.prog gf (.agg (drow d).toArray :: caps) H (.bool (p d))) :
    Fn Try.prog 98 [.slice a n cq, fv gf caps] H [] fun v H' I' => (∃ i : Int, v = .int .i64 i ∧ decide (0 ≤ i) = l.any p) ∧ H' = H ∧ I' = [] := by
  have e1 : l.length = n := by have := hx.len; simpa using this
  refine Fn_of _ _ Try.func98 rfl Try.ntmps98 rfl fun c => ?_
  repeat' (first | refine O_nil ?_ | refine A_seq ?_ | refine A_region ?_ | refine A_block ?_ | (show opsA _ _ _ _ _ _ _; first | refine O_ev WideF.wide rfl (Ev_pure rfl) rfl rfl ?_ | (show opsA _ _ _ _ (⟨_, .call _, _, _, _, _⟩ :: _) _ _; refine O_ev WideF.wide rfl (Ev_llen rfl) rfl rfl ?_)))
  refine A_loopu (fun m s => ∃ i : Nat, m = n - i ∧ i ≤ n ∧ (∀ d ∈ l.take i, p d = false) ∧ s = ⟨19, [(0, .slice a n cq), (1, fv gf caps), (7, .int .i64 n), (8, .int .i64 i)], H, [], [], []⟩) ?_ ?_
  · exact Shift.to ⟨_, 0, rfl, by omega, fun d hd => by simp at hd, rfl⟩ ⟨rfl, rfl, rfl, ⟨rfl, rfl, rfl, rfl, trivial⟩, Own.sub_nil _⟩
  · rintro m s ⟨i, rfl, hi, hall, rfl⟩
    by_cases hlt : i < n
    · obtain ⟨b, o, y, rfl, hyi, hc⟩ := hx.atm i hlt
      have hgy := hg y
      have hcy := hc
      unfold drow at hc
      cases hpy : p y with
      | true =>
        rw [hpy] at hgy
        repeat' (first | (refine O_ev WideF.wide rfl (Ev_loadH rfl hcy rfl) rfl rfl ?_) | (refine O_ef rfl (Ef_callcp (args := [_]) WideF.wide hgy rfl ⟨rfl, trivial⟩ rfl ?_)) | refine O_nil ?_ | refine A_seq ?_ | refine A_region ?_ | refine A_skip ?_ | refine A_ret ?_ | refine A_block ?_ | (show opsA _ _ _ _ _ _ _; first | refine O_ev WideF.wide rfl (Ev_pure rfl) rfl rfl ?_ | (show opsA _ _ _ _ (⟨_, .indexAddr _ _ _, _, _, _, _⟩ :: _) _ _; refine O_ev WideF.wide rfl (Ev_indexAddr rfl rfl (by omega) (by omega)) rfl rfl ?_)) | (show wpA _ _ _ (.cond _ _ _) _ _ _ _; first | (refine A_if rfl (fun h => ?_) (fun h => ?_) <;> try (exfalso; omega)) | refine A_iftrue rfl ?_))
        refine End_e (Ret1 rfl rfl) ⟨⟨i, rfl, ?_⟩, rfl, rfl⟩
        have h1 : l.any p = true := List.any_eq_true.2 ⟨y, List.mem_of_getElem? hyi, hpy⟩
        rw [h1]; simp
      | false =>
        rw [hpy] at hgy
        repeat' (first | (refine O_ev WideF.wide rfl (Ev_loadH rfl hcy rfl) rfl rfl ?_) | (refine O_ef rfl (Ef_callcp (args := [_]) WideF.wide hgy rfl ⟨rfl, trivial⟩ rfl ?_)) | refine O_nil ?_ | refine A_seq ?_ | refine A_region ?_ | refine A_skip ?_ | refine A_block ?_ | (show opsA _ _ _ _ _ _ _; first | refine O_ev WideF.wide rfl (Ev_pure rfl) rfl rfl ?_ | (show opsA _ _ _ _ (⟨_, .indexAddr _ _ _, _, _, _, _⟩ :: _) _ _; refine O_ev WideF.wide rfl (Ev_indexAddr rfl rfl (by omega) (by omega)) rfl rfl ?_) | (show opsA _ _ _ _ (⟨_, .binOp _ _ _ _ _, _, _, _, _⟩ :: _) _ _; refine O_ev WideF.wide rfl (Ev_add rfl rfl (wi64 (by omega))) rfl rfl ?_)) | (show wpA _ _ _ (.cond _ _ _) _ _ _ _; first | (refine A_if rfl (fun h => ?_) (fun h => ?_) <;> try (exfalso; omega)) | refine A_iffalse rfl ?_))
        refine Shift.to ⟨_, ?_, i + 1, rfl, by omega, fun d hd => ?_, rfl⟩ ⟨rfl, rfl, rfl, ⟨rfl, rfl, rfl, rfl, trivial⟩, Own.sub_nil _⟩
        · omega
        · rw [take_get hyi] at hd
          rcases List.mem_append.1 hd with hd | hd
          · exact hall d hd
          · simp at hd; subst hd; exact hpy
    · have hin : n = i := by omega
      subst hin
      repeat' (first | refine O_nil ?_ | refine A_seq ?_ | refine A_region ?_ | refine A_ret ?_ | (show opsA _ _ _ _ _ _ _; refine O_ev WideF.wide rfl (Ev_pure rfl) rfl rfl ?_) | (show wpA _ _ _ (.exit _) _ _ _ _; refine A_exit rfl ?_) | (show wpA _ _ _ (.cond _ _ _) _ _ _ _; (refine A_if rfl (fun h => ?_) (fun h => ?_) <;> try (exfalso; omega))))
      refine End_e (Ret1 rfl rfl) ⟨⟨-1, rfl, ?_⟩, rfl, rfl⟩
      rw [List.take_of_length_le (by omega)] at hall
      have h1 : l.any p = false := List.any_eq_false.2 fun d hd => by simp [hall d hd]
      rw [h1]; rfl
set_option maxRecDepth 100000 in
theorem conDele_fn {H : Hp} {a : Option Addr} {n cq : Nat} {l : List Dele} (hx : HRow H a n cq 2 (l.map drow)) (hm : n < 68719476736) (hg : ∀ d, FnP Try.prog gf (.agg (drow d).toArray :: caps) H (.bool (p d))) :
    FnP Try.prog 79 [.slice a n cq, fv gf caps] H (.bool (l.any p)) := by
  have hi := idxDele_fn hx hm hg
  refine Fn_of _ _ Try.func79 rfl Try.ntmps79 rfl fun c => ?_
  repeat' (first | (refine O_ef rfl (Ef_call (I := []) WideF.wide hi ⟨rfl, rfl, trivial⟩ rfl ?_); rintro v H' I' hk ⟨⟨i, rfl, hi2⟩, rfl, rfl⟩) | refine O_nil ?_ | refine A_seq ?_ | refine A_region ?_ | refine A_ret ?_ | (show opsA _ _ _ _ _ _ _; refine O_ev WideF.wide rfl (Ev_pure rfl) rfl rfl ?_))
  refine End_p (Ret1 rfl rfl) ?_
  rw [← hi2]
end
set_option maxRecDepth 100000 in
/-- with, where the marks lie wherever they lie -/
theorem with_raw {H : Hp} {pa : Option Addr} {pn pc : Nat} {l : List Prp} {i m : Int} {da la : Option Addr} {dn dc ln lc : Nat} {k : Int} {s : St} (h1 : HRow H pa pn pc 2 (l.map prow)) (hs : IncP l) (hm : l.length < 34359738368) :
    Fn Try.prog 71 [.agg [.slice pa pn pc, .int .i64 i, .int .i64 m, .slice da dn dc, .slice la ln lc].toArray, .int .i64 k, stv s] H [] fun v H' I' =>
      (∃ pa' pn' pc', v = .agg [.slice pa' pn' pc', .int .i64 i, .int .i64 m, .slice da dn dc, .slice la ln lc].toArray ∧ HRow H' pa' pn' pc' 2 ((withP l k s).map prow)) ∧ I' = [] := by
  have l1 := h1.len
  simp only [List.length_map] at l1
  have hst := pSet_fn (k := k) (x := s.val) h1 hs (by omega)
  have hcl := pClear_fn (k := k) h1 hs (by omega)
  obtain ⟨sv, sb⟩ := s
  cases sb with
  | false =>
    refine Fn_of _ _ Try.func71 rfl Try.ntmps71 rfl fun c => ?_
    repeat' (first | (refine O_ef rfl (Ef_call (I := []) WideF.wide hcl ⟨rfl, rfl, trivial⟩ rfl ?_); rintro v H1 I1 hle1 ⟨⟨pa', pn', pc', rfl, hr⟩, rfl⟩) | refine O_nil ?_ | refine A_seq ?_ | refine A_region ?_ | refine A_ret ?_ | (show opsA _ _ _ _ _ _ _; first | refine O_ev WideF.wide rfl (Ev_pure rfl) rfl rfl ?_ | (show opsA _ _ _ _ (⟨_, .load _ _, _, _, _, _⟩ :: _) _ _; first | refine O_ev WideF.wide rfl (Ev_loadB1 (i := 1) rfl rfl rfl) rfl rfl ?_ | refine O_ev WideF.wide rfl (Ev_loadB1 (i := 2) rfl rfl rfl) rfl rfl ?_ | refine O_ev WideF.wide rfl (Ev_loadB (i := 0) rfl rfl rfl) rfl rfl ?_) | (show opsA _ _ _ _ (⟨_, .fieldAddr _ _ _, _, _, _, _⟩ :: _) _ _; refine O_ev WideF.wide rfl (Ev_fieldAddr rfl rfl rfl) rfl rfl ?_) | (show opsA _ _ _ _ (⟨_, .alloc _, _, _, _, _⟩ :: _) _ _; (refine O_ef rfl (Ef_alloc WideF.wide rfl ?_); intro b)) | (show opsA _ _ _ _ (⟨_, .box _ _, _, _, _, _⟩ :: _) _ _; (refine O_ef rfl (Ef_boxa WideF.wide rfl rfl ?_); intro b)) | (show opsA _ _ _ _ (⟨_, .store _ _ _, _, _, _, _⟩ :: _) _ _; first | refine O_f1 (O_ef rfl (Ef_storew WideF.wide rfl rfl rfl rfl rfl ?_)) | refine O_f2 (O_ef rfl (Ef_store1 WideF.wide rfl rfl rfl rfl rfl ?_)))) | (show wpA _ _ _ (.cond _ _ _) _ _ _ _; refine A_iffalse rfl ?_))
    first | (refine End_e (RetC rfl rfl (i := 0) rfl rfl) ?_) | (refine End_e (RetC rfl rfl (i := 1) rfl rfl) ?_) | (refine End_e (RetC rfl rfl (i := 2) rfl rfl) ?_)
    exact ⟨⟨pa', pn', pc', rfl, hr⟩, rfl⟩
  | true =>
    refine Fn_of _ _ Try.func71 rfl Try.ntmps71 rfl fun c => ?_
    repeat' (first | (refine O_ef rfl (Ef_call (I := []) WideF.wide hst ⟨rfl, rfl, rfl, trivial⟩ rfl ?_); rintro v H1 I1 hle1 ⟨⟨pa', pn', pc', rfl, hr⟩, rfl⟩) | refine O_nil ?_ | refine A_seq ?_ | refine A_region ?_ | refine A_ret ?_ | (show opsA _ _ _ _ _ _ _; first | refine O_ev WideF.wide rfl (Ev_pure rfl) rfl rfl ?_ | (show opsA _ _ _ _ (⟨_, .load _ _, _, _, _, _⟩ :: _) _ _; first | refine O_ev WideF.wide rfl (Ev_loadB1 (i := 1) rfl rfl rfl) rfl rfl ?_ | refine O_ev WideF.wide rfl (Ev_loadB1 (i := 2) rfl rfl rfl) rfl rfl ?_ | refine O_ev WideF.wide rfl (Ev_loadB (i := 0) rfl rfl rfl) rfl rfl ?_) | (show opsA _ _ _ _ (⟨_, .fieldAddr _ _ _, _, _, _, _⟩ :: _) _ _; refine O_ev WideF.wide rfl (Ev_fieldAddr rfl rfl rfl) rfl rfl ?_) | (show opsA _ _ _ _ (⟨_, .alloc _, _, _, _, _⟩ :: _) _ _; (refine O_ef rfl (Ef_alloc WideF.wide rfl ?_); intro b)) | (show opsA _ _ _ _ (⟨_, .box _ _, _, _, _, _⟩ :: _) _ _; (refine O_ef rfl (Ef_boxa WideF.wide rfl rfl ?_); intro b)) | (show opsA _ _ _ _ (⟨_, .store _ _ _, _, _, _, _⟩ :: _) _ _; first | refine O_f1 (O_ef rfl (Ef_storew WideF.wide rfl rfl rfl rfl rfl ?_)) | refine O_f2 (O_ef rfl (Ef_store1 WideF.wide rfl rfl rfl rfl rfl ?_)))) | (show wpA _ _ _ (.cond _ _ _) _ _ _ _; refine A_iftrue rfl ?_))
    first | (refine End_e (RetC rfl rfl (i := 0) rfl rfl) ?_) | (refine End_e (RetC rfl rfl (i := 1) rfl rfl) ?_) | (refine End_e (RetC rfl rfl (i := 2) rfl rfl) ?_)
    exact ⟨⟨pa', pn', pc', rfl, hr⟩, rfl⟩
end Go.Proofs.Ythniohgeojenaaa
