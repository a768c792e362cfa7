/-
  check, Fill (program and reference).
-/
import Derived.Test.YtaneeaojlkenmaaGreatDoorL13
namespace Go.Proofs.YtaneeaojlkenmaaGreatDoor
open Go
set_option linter.unusedVariables false
set_option linter.unusedSimpArgs false
theorem chkGo_ok : ∀ (l : List Lv) (k : Nat), chkGo k l = 0 → ∀ (i : Nat) (x : Lv), l[i]? = some x → 1 ≤ x.fmt ∧ x.fmt ≤ 7 ∧ chkT x.tpl ((k + i : Nat) + 1) = 0
  | [], _, _, i, x, hx => by simp at hx
  | y :: r, k, h, i, x, hx => by
    rw [chkGo_cons] at h
    split at h
    · cases h
    · split at h
      · cases h
      · split at h
        · next h1 => exact absurd h h1
        · split at h
          · cases h
          · next h1 h2 h3 h4 =>
            cases i with
            | zero =>
              simp only [List.getElem?_cons_zero, Option.some.injEq] at hx
              subst hx
              exact ⟨by omega, by omega, by simpa using h3⟩
            | succ i =>
              simp only [List.getElem?_cons_succ] at hx
              have := chkGo_ok r (k + 1) h i x hx
              rw [show k + (i + 1) = k + 1 + i by omega]
              exact this
theorem chkLv_ok {l : List Lv} (h : chkLv l = 0) : 1 ≤ l.length ∧ l.length ≤ 9 ∧ ∀ (i : Nat) (x : Lv), l[i]? = some x → 1 ≤ x.fmt ∧ x.fmt ≤ 7 ∧ chkT x.tpl ((i : Int) + 1) = 0 := by
  unfold chkLv at h
  split at h
  · cases h
  · split at h
    · cases h
    · refine ⟨by omega, by omega, fun i x hx => ?_⟩
      have := chkGo_ok l 0 h i x hx
      rw [Nat.zero_add] at this
      exact this
/-- a template that is right for a level -/
theorem chkT_ok {s : List UInt8} {q : Int} (h : chkT s q = 0) : (tplE s).2 = 0 ∧ (∀ p ∈ (tplE s).1, p.lev ≤ q) ∧ s.length ≤ 64 ∧ places (tplE s).1 ≤ 9 ∧ txt (tplE s).1 = s := by
  unfold chkT at h
  split at h
  · cases h
  · split at h
    · next h1 => exact absurd h h1
    · next h1 =>
      have h0 : (tplE s).2 = 0 := by simpa using h1
      have e : tplE s = ((tplE s).1, 0) := by rw [← h0]
      obtain ⟨_, h3, h4⟩ := tplE_ok e
      obtain ⟨h5, _⟩ := tplE_norm e
      split at h
      · cases h
      · next h2 => exact ⟨h0, fun p hp => by
          rcases Int.lt_or_le q p.lev with h6 | h6
          · exact absurd ⟨p, hp, h6⟩ h2
          · exact h6, h3, h4, h5⟩
theorem parts_in {s : List UInt8} {i : Nat} (h : chkT s ((i : Int) + 1) = 0) : ∀ p ∈ (tplE s).1, p.lev = 0 ∨ 1 ≤ p.lev ∧ p.lev ≤ i + 1 := fun p hp => by
  have h1 := (chkT_ok h).2.1 p hp
  rcases parts_ok p hp with h2 | h2
  · exact .inl h2
  · exact .inr ⟨h2.1, h1⟩
/-- check -/
def lvE (l : List Lv) (q : Int) : Int := if chkLv l ≠ 0 then chkLv l else if q < 1 ∨ (l.length : Int) < q then 2 else 0
/-- Fill -/
def fillE (l : List Lv) (q : Int) (ns : List Int) : List UInt8 × Int :=
  if lvE l q ≠ 0 then ([], lvE l q) else if (ns.length : Int) < q then ([], 11) else
  match l[(q - 1).toNat]? with
  | some x => (fillS (fmts l) (tplE x.tpl).1 ns, 0)
  | none => ([], 0)
def fillV (l : List Lv) (q : Int) (ns : List Int) : Value := .tuple [sv (fillE l q ns).1, .int .i64 (fillE l q ns).2].toArray
theorem fillS_snoc (fs ns : List Int) (l : List Pt) (p : Pt) : fillS fs (l ++ [p]) ns = fillS fs l ns ++ (if p.lev = 0 then p.lit else digT (fmtOf fs p) (ns.getD (p.lev - 1).toNat 0) p.plain) := by
  unfold fillS; rw [List.flatMap_append]; simp
theorem places_take {l : List Pt} {i : Nat} : places (l.take i) ≤ places l := by
  have h : l = l.take i ++ l.drop i := (List.take_append_drop i l).symm
  conv => rhs; rw [h]
  rw [places_append]
  omega
theorem txt_take {l : List Pt} {i : Nat} : (txt (l.take i)).length ≤ (txt l).length := by
  have h : l = l.take i ++ l.drop i := (List.take_append_drop i l).symm
  conv => rhs; rw [h]
  rw [txt_append, List.length_append]
  omega
attribute [local irreducible] wpA opsA drJ drQ drE Ef Ev Shift Fn
set_option maxRecDepth 100000 in
set_option maxHeartbeats 1000000 in
theorem lvcheck_fn {H : Hp} {a : Option Addr} {n cq : Nat} {l : List Lv} (hx : HRow H a n cq 4 (l.map lvrow)) (hn : n < 68719476736) (hl : ∀ x ∈ l, x.tpl.length < 1099511627776) (q : Int) :
    Fn Tryz.prog 44 [.slice a n cq, .int .i64 q] H [] fun v _ I => v = .int .i64 (lvE l q) ∧ I = [] := by
  have e1 : l.length = n := by have := hx.len; simpa using this
  have hc := lCheckLevels_fn hx hn hl
  unfold lvE
  rw [e1]
  by_cases he : chkLv l = 0
  · rw [if_neg (by simpa using he)]
    rw [he] at hc
    by_cases hq : q < 1 ∨ (n : Int) < q
    · rw [if_pos hq]
      refine Fn_of _ _ Tryz.func44 rfl Tryz.ntmps44 rfl fun c => ?_
      repeat' (first | (refine O_ef rfl (Ef_call (I := []) WideF.wide (hc) ⟨rfl, trivial⟩ rfl ?_); rintro v H2 I2 hle2 ⟨rfl, rfl⟩) | refine O_nil ?_ | refine A_seq ?_ | refine A_region ?_ | refine A_skip ?_ | refine A_ret ?_ | (show opsA _ _ _ _ _ _ _; first | (refine O_split rfl rfl (fun h => ?_) (fun h => ?_) <;> try (exfalso; omega)) | refine O_ev WideF.wide rfl (Ev_pure rfl) rfl rfl ?_ | (show opsA _ _ _ _ (⟨_, .call _, _, _, _, _⟩ :: _) _ _; refine O_ev WideF.wide rfl (Ev_llen rfl) rfl rfl ?_) | refine O_skip WideF.wide rfl rfl rfl ?_) | (show wpA _ _ _ (.cond _ _ _) _ _ _ _; first | (refine A_if rfl (fun h => ?_) (fun h => ?_) <;> try (exfalso; omega)) | refine A_iftrue rfl ?_))
      all_goals first
        | (exfalso; omega)
        | (exfalso; exact absurd trivial (by assumption))
        | exact End_e (Ret1 rfl rfl) ⟨rfl, rfl⟩
    · rw [if_neg hq]
      refine Fn_of _ _ Tryz.func44 rfl Tryz.ntmps44 rfl fun c => ?_
      repeat' (first | (refine O_ef rfl (Ef_call (I := []) WideF.wide (hc) ⟨rfl, trivial⟩ rfl ?_); rintro v H2 I2 hle2 ⟨rfl, rfl⟩) | refine O_nil ?_ | refine A_seq ?_ | refine A_region ?_ | refine A_skip ?_ | refine A_ret ?_ | (show opsA _ _ _ _ _ _ _; first | (refine O_split rfl rfl (fun h => ?_) (fun h => ?_) <;> try (exfalso; omega)) | refine O_ev WideF.wide rfl (Ev_pure rfl) rfl rfl ?_ | (show opsA _ _ _ _ (⟨_, .call _, _, _, _, _⟩ :: _) _ _; refine O_ev WideF.wide rfl (Ev_llen rfl) rfl rfl ?_)) | (show wpA _ _ _ (.cond _ _ _) _ _ _ _; (refine A_if rfl (fun h => ?_) (fun h => ?_) <;> try (exfalso; omega))))
      all_goals first
        | (exfalso; omega)
        | (exfalso; exact absurd trivial (by assumption))
        | exact End_e (Ret1 rfl rfl) ⟨rfl, rfl⟩
  · rw [if_pos (by simpa using he)]
    generalize chkLv l = e at hc he
    refine Fn_of _ _ Tryz.func44 rfl Tryz.ntmps44 rfl fun c => ?_
    repeat' (first | (refine O_ef rfl (Ef_call (I := []) WideF.wide (hc) ⟨rfl, trivial⟩ rfl ?_); rintro v H2 I2 hle2 ⟨rfl, rfl⟩) | refine O_nil ?_ | refine A_seq ?_ | refine A_region ?_ | refine A_ret ?_ | (show opsA _ _ _ _ _ _ _; refine O_ev WideF.wide rfl (Ev_pure rfl) rfl rfl ?_) | (show wpA _ _ _ (.cond _ _ _) _ _ _ _; (refine A_if rfl (fun h => ?_) (fun h => ?_) <;> try (exfalso; omega))))
    all_goals first
      | (exfalso; omega)
      | exact End_e (Ret1 rfl rfl) ⟨rfl, rfl⟩
theorem HRow.geti {H : Hp} {a : Option Addr} {n c : Nat} {ns : List Int} (h : HRow H a n c 1 (ns.map irow)) {j : Nat} (hj : j < n) : ∃ b o, a = some ⟨b, o, none⟩ ∧ H b (o + j * 1) = some (.int .i64 (ns.getD j 0)) := by
  obtain ⟨b, o, y, ha, hy, hc⟩ := h.atm j hj
  refine ⟨b, o, ha, ?_⟩
  have e : ns.getD j 0 = y := by simp [List.getD, hy]
  rw [e]
  exact hc 0 _ rfl
set_option maxRecDepth 100000 in
set_option maxHeartbeats 4000000 in
theorem Fill_fn {H : Hp} (hE : EnvH H) {a : Option Addr} {n cq : Nat} {l : List Lv} (hx : HRow H a n cq 4 (l.map lvrow)) (hn : n < 68719476736) (hl : ∀ x ∈ l, x.tpl.length < 1099511627776) (q : Int)
    {a2 : Option Addr} {n2 c2 : Nat} {ns : List Int} (hns : HRow H a2 n2 c2 1 (ns.map irow)) (hn2 : n2 < 68719476736) :
    Fn Tryz.prog 24 [.slice a n cq, .int .i64 q, .slice a2 n2 c2] H [] fun v _ I => v = fillV l q ns ∧ I = [] := by
  have e1 : l.length = n := by have := hx.len; simpa using this
  have e2 : ns.length = n2 := by have := hns.len; simpa using this
  have hc := lvcheck_fn hx hn hl q
  unfold fillV fillE
  rw [e2]
  by_cases he : lvE l q = 0
  · rw [if_neg (by simpa using he)]
    rw [he] at hc
    have hck : chkLv l = 0 ∧ 1 ≤ q ∧ q ≤ n := by
      unfold lvE at he
      split at he
      · next h => exact absurd he h
      · next h => split at he
                  · cases he
                  · rw [e1] at *; exact ⟨by simpa using h, by omega, by omega⟩
    obtain ⟨hck, hq1, hqn⟩ := hck
    by_cases h11 : (n2 : Int) < q
    · rw [if_pos h11]
      refine Fn_of _ _ Tryz.func24 rfl Tryz.ntmps24 rfl fun c => ?_
      repeat' (first | (refine O_ef rfl (Ef_call (I := []) WideF.wide (hc) ⟨rfl, rfl, trivial⟩ rfl ?_); rintro v H2 I2 hle2 ⟨rfl, rfl⟩) | refine O_nil ?_ | refine A_seq ?_ | refine A_region ?_ | refine A_skip ?_ | refine A_ret ?_ | (show opsA _ _ _ _ _ _ _; first | refine O_ev WideF.wide rfl (Ev_pure rfl) rfl rfl ?_ | (show opsA _ _ _ _ (⟨_, .call _, _, _, _, _⟩ :: _) _ _; refine O_ev WideF.wide rfl (Ev_llen rfl) rfl rfl ?_)) | (show wpA _ _ _ (.cond _ _ _) _ _ _ _; (refine A_if rfl (fun h => ?_) (fun h => ?_) <;> try (exfalso; omega))))
      all_goals first
        | (exfalso; omega)
        | (exfalso; exact absurd trivial (by assumption))
        | exact End_e (Ret2 rfl rfl rfl) ⟨rfl, rfl⟩
    · rw [if_neg h11]
      obtain ⟨k, rfl⟩ : ∃ k : Nat, q = k + 1 := ⟨(q - 1).toNat, by omega⟩
      obtain ⟨b, o, x, rfl, hxk, hcl⟩ := hx.atm k (by omega)
      have hk0 : ((k : Int) + 1 - 1).toNat = k := by omega
      have hk1 : (k : Int) + 1 - 1 = (k : Int) := by omega
      rw [hk0, hxk]
      dsimp only
      obtain ⟨hck1, hck9, hckx⟩ := chkLv_ok hck
      obtain ⟨hf1, hf7, hct⟩ := hckx k x hxk
      have hin := parts_in hct
      obtain ⟨ht1, ht2, ht3, ht4, ht5⟩ := chkT_ok hct
      have hp := fun Hx => lParse_fn (H := Hx) (s := x.tpl) (by omega)
      have hpl := parts_len (s := x.tpl)
      unfold ParseH at hp
      unfold lvrow at hcl
      generalize tplE x.tpl = t at *
      obtain ⟨ps, e⟩ := t
      dsimp only at hp hpl hin ht1 ht2 ht4 ht5 ⊢
      subst ht1
      refine Fn_of _ _ Tryz.func24 rfl Tryz.ntmps24 rfl fun c => ?_
      repeat' (first | (refine O_ef rfl (Ef_call (I := []) WideF.wide (hc) ⟨rfl, rfl, trivial⟩ rfl ?_); rintro v H2 I2 hle2 ⟨rfl, rfl⟩) | (refine O_ev WideF.wide rfl (Ev_sub rfl rfl (wi64 (by omega))) rfl rfl ?_; rw [hk1]) | (refine O_ev WideF.wide rfl (Ev_loadH1 rfl (hle2 _ _ _ (hcl 2 _ rfl))) rfl rfl ?_) | (refine O_ef rfl (Ef_call (I := []) WideF.wide (hp _) ⟨rfl, trivial⟩ rfl ?_); rintro v H3 I3 hle3 ⟨a3, n3, c3, rfl, hr, rfl⟩); have hn3 : n3 = ps.length := (by have := hr.len; rw [List.length_map] at this; omega) | (refine O_ef rfl (Ef_allocO WideF.wide rfl ?_); intro b3) | refine O_nil ?_ | refine A_seq ?_ | refine A_region ?_ | refine A_skip ?_ | refine A_block ?_ | (show opsA _ _ _ _ _ _ _; first | refine O_ev WideF.wide rfl (Ev_pure rfl) rfl rfl ?_ | (show opsA _ _ _ _ (⟨_, .indexAddr _ _ _, _, _, _, _⟩ :: _) _ _; refine O_ev WideF.wide rfl (Ev_indexAddr rfl rfl (by omega) (by omega)) rfl rfl ?_) | (show opsA _ _ _ _ (⟨_, .fieldAddr _ _ _, _, _, _, _⟩ :: _) _ _; refine O_ev WideF.wide rfl (Ev_fieldAddr rfl rfl rfl) rfl rfl ?_) | (show opsA _ _ _ _ (⟨_, .call _, _, _, _, _⟩ :: _) _ _; refine O_ev WideF.wide rfl (Ev_llen rfl) rfl rfl ?_)) | (show wpA _ _ _ (.cond _ _ _) _ _ _ _; (refine A_if rfl (fun h => ?_) (fun h => ?_) <;> try (exfalso; omega))))
      all_goals try (exfalso; omega)
      all_goals try (exfalso; exact absurd trivial (by assumption))
      have hx3 := hx.mono (hle2.trans hle3)
      have hns3 := hns.mono (hle2.trans hle3)
      have hE3 := hE.mono (hle2.trans hle3)
      have hfl : ∀ i, (fillS (fmts l) (ps.take i) ns).length ≤ 200 := fun i => by
        have h1 := fill_len (fmts l) ns (ps.take i)
        have h2 := txt_take (l := ps) (i := i)
        have h3 := places_take (l := ps) (i := i)
        rw [ht5] at h2
        omega
      refine A_loopu (fun m st => ∃ (i : Nat) (I : Own) (H4 : Hp), m = n3 - i ∧ i ≤ n3 ∧ HLe H3 H4 ∧ BldIs b3 (fillS (fmts l) (ps.take i) ns) I ∧ st = ⟨65, [(0, .slice (some ⟨b, o, none⟩) n cq), (2, .slice a2 n2 c2), (11, .pointer (some ⟨b3, 0, none⟩)), (34, .slice a3 n3 c3), (35, .int .i64 n3), (36, .int .i64 i)], H4, I, [], []⟩) ?_ ?_
      · exact Shift.to ⟨_, 0, _, H3, rfl, by omega, HLe.refl H3, by rw [List.take_zero]; exact BldIs.new b3, rfl⟩ ⟨rfl, rfl, rfl, ⟨rfl, rfl, rfl, rfl, rfl, rfl, trivial⟩, Own.sub_refl _⟩
      · rintro m st ⟨i, I, H4, rfl, hi, hl4, hI, rfl⟩
        have hfi := hfl i
        by_cases hlt : i < n3
        · obtain ⟨b5, o5, p, rfl, hpi, hc5⟩ := hr.atm i hlt
          have hc5 := hc5.mono hl4
          have hpin := hin p (List.mem_of_getElem? hpi)
          have hsn := fillS_snoc (fmts l) ns (ps.take i) p
          rw [← take_get hpi] at hsn
          have hfi1 := hfl (i + 1)
          obtain ⟨lit, lev, pl⟩ := p
          dsimp only at hpin hsn
          unfold prow at hc5
          dsimp only at hc5
          by_cases h0 : lev = 0
          · subst h0
            rw [if_pos rfl] at hsn
            have hll : lit.length ≤ 200 := by rw [hsn, List.length_append] at hfi1; omega
            have hws := fun Hx => WriteString_fn Hx b3 _ lit I hI (by omega)
            repeat' (first | (refine O_ev WideF.wide rfl (Ev_loadH rfl hc5 rfl) rfl rfl ?_) | (refine O_ef rfl (Ef_call1 WideF.wide (hws _) ⟨rfl, rfl, trivial⟩ rfl ?_); rintro u H6 I6 hle6 ⟨rfl, hI6⟩) | refine O_nil ?_ | refine A_seq ?_ | refine A_region ?_ | refine A_skip ?_ | refine A_block ?_ | (show opsA _ _ _ _ _ _ _; first | refine O_ev WideF.wide rfl (Ev_pure rfl) rfl rfl ?_ | (show opsA _ _ _ _ (⟨_, .load _ _, _, _, _, _⟩ :: _) _ _; refine O_ev WideF.wide rfl (Ev_loadB1 (i := 0) rfl rfl rfl) rfl rfl ?_) | (show opsA _ _ _ _ (⟨_, .indexAddr _ _ _, _, _, _, _⟩ :: _) _ _; refine O_ev WideF.wide rfl (Ev_indexAddr rfl rfl (by omega) (by omega)) rfl rfl ?_) | (show opsA _ _ _ _ (⟨_, .fieldAddr _ _ _, _, _, _, _⟩ :: _) _ _; refine O_ev WideF.wide rfl (Ev_fieldAddr rfl rfl rfl) rfl rfl ?_) | (show opsA _ _ _ _ (⟨_, .binOp _ _ _ _ _, _, _, _, _⟩ :: _) _ _; refine O_ev WideF.wide rfl (Ev_add rfl rfl (wi64 (by omega))) rfl rfl ?_) | (show opsA _ _ _ _ (⟨_, .alloc _, _, _, _, _⟩ :: _) _ _; (refine O_ef rfl (Ef_alloc WideF.wide rfl ?_); intro b)) | (show opsA _ _ _ _ (⟨_, .store _ _ _, _, _, _, _⟩ :: _) _ _; refine O_ef rfl (Ef_storew WideF.wide rfl rfl rfl rfl rfl ?_))) | (show wpA _ _ _ (.exit _) _ _ _ _; refine A_exit rfl ?_) | (show wpA _ _ _ (.cond _ _ _) _ _ _ _; (refine A_if rfl (fun h => ?_) (fun h => ?_) <;> try (exfalso; omega))))
            all_goals try (exfalso; omega)
            all_goals try (exfalso; exact absurd trivial (by assumption))
            refine Shift.to ⟨_, ?_, i + 1, I6, _, rfl, by omega, hl4.trans hle6, by rw [hsn]; exact hI6, rfl⟩ ⟨rfl, rfl, rfl, ⟨rfl, rfl, rfl, rfl, rfl, rfl, trivial⟩, Own.sub_tail _ _⟩
            omega
          · rw [if_neg h0] at hsn
            have hlv := hpin.elim (fun h => absurd h h0) id
            obtain ⟨j, rfl⟩ : ∃ j : Nat, lev = j + 1 := ⟨(lev - 1).toNat, by omega⟩
            have hj1 : (j : Int) + 1 - 1 = (j : Int) := by omega
            have hj0 : ((j : Int) + 1 - 1).toNat = j := by omega
            have hx4 := hx3.mono hl4
            obtain ⟨b6, o6, y, hb6, hyj, hcy⟩ := hx4.atm j (by omega)
            cases hb6
            obtain ⟨b7, o7, rfl, hnum⟩ := HRow.geti (hns3.mono hl4) (j := j) (by omega)
            have hfm : fmtOf (fmts l) ⟨lit, j + 1, pl⟩ = y.fmt := fmtOf_at (by show j = ((j : Int) + 1 - 1).toNat; omega) hyj
            rw [hfm, hj0] at hsn
            have hdl := dig_len (f := y.fmt) (n := ns.getD j 0) (pl := pl)
            have hdg := fun Hx (hle : HLe H4 Hx) => ldigits_fn (hE3.mono (hl4.trans hle)) y.fmt (ns.getD j 0) pl
            have hws := fun Hx => WriteString_fn Hx b3 _ (digT y.fmt (ns.getD j 0) pl) I hI (by omega)
            unfold lvrow at hcy
            repeat' (first | (refine O_ev WideF.wide rfl (Ev_loadH rfl hc5 rfl) rfl rfl ?_) | refine O_nil ?_ | refine A_seq ?_ | refine A_region ?_ | refine A_skip ?_ | refine A_block ?_ | (show opsA _ _ _ _ _ _ _; first | refine O_ev WideF.wide rfl (Ev_pure rfl) rfl rfl ?_ | (show opsA _ _ _ _ (⟨_, .load _ _, _, _, _, _⟩ :: _) _ _; refine O_ev WideF.wide rfl (Ev_loadB1 (i := 0) rfl rfl rfl) rfl rfl ?_) | (show opsA _ _ _ _ (⟨_, .indexAddr _ _ _, _, _, _, _⟩ :: _) _ _; refine O_ev WideF.wide rfl (Ev_indexAddr rfl rfl (by omega) (by omega)) rfl rfl ?_) | (show opsA _ _ _ _ (⟨_, .fieldAddr _ _ _, _, _, _, _⟩ :: _) _ _; refine O_ev WideF.wide rfl (Ev_fieldAddr rfl rfl rfl) rfl rfl ?_) | (show opsA _ _ _ _ (⟨_, .alloc _, _, _, _, _⟩ :: _) _ _; (refine O_ef rfl (Ef_alloc WideF.wide rfl ?_); intro b)) | (show opsA _ _ _ _ (⟨_, .store _ _ _, _, _, _, _⟩ :: _) _ _; refine O_ef rfl (Ef_storew WideF.wide rfl rfl rfl rfl rfl ?_))) | (show wpA _ _ _ (.cond _ _ _) _ _ _ _; (refine A_if rfl (fun h => ?_) (fun h => ?_) <;> try (exfalso; omega))))
            all_goals try (exfalso; omega)
            refine A_freezeBox (by intro u hu; simp at hu; rcases hu with rfl | rfl | rfl <;> rfl) ?_
            intro H5 hle5 hbx
            repeat' (first | (refine A_drawM WideF.wide (.q 0 (.q 1 (.q 2 (.q 3 (.q 4 (.q 5 (.q 6 (.q 7 (.q 8 (.q 9 (.q 10 (.q 11 (.q 12 (.q 13 (.q 14 (.e 15 (.e 16 (.done [])))))))))))))))))) [] (by decide +kernel) ?_) | (refine D_ev rfl (Ev_loadH1 rfl (hbx 1 _ rfl)) rfl rfl ?_) | (refine D_ev rfl (Ev_loadH1 rfl (hbx 2 _ rfl)) rfl rfl ?_) | (refine D_ev rfl (Ev_loadH1 rfl (hle5 _ _ _ (hcy 0 _ rfl))) rfl rfl ?_) | (refine D_ev rfl (Ev_loadH1 rfl (hle5 _ _ _ hnum)) rfl rfl ?_) | (refine D_ev rfl (Ev_sub rfl rfl (wi64 (by omega))) rfl rfl ?_; rw [hj1]) | (refine E_ef rfl (Ef_call (I := []) WideF.wide (hdg _ hle5) ⟨rfl, rfl, rfl, trivial⟩ rfl ?_); rintro u H6 I6 hle6 ⟨rfl, rfl⟩; refine ⟨⟨hle6, rfl⟩, ?_⟩) | (refine E_ef rfl (Ef_call0 WideF.wide (hws _) ⟨rfl, rfl, trivial⟩ rfl ?_); rintro u7 H7 I7 hle7 ⟨rfl, hI7⟩; refine ⟨⟨hle7, rfl⟩, ?_⟩) | (show drJ _ _ _ _ _ _ _ (.done _) _; refine D_done ?_; rw [List.append_nil]) | refine O_nil ?_ | refine A_region ?_ | (show drJ _ _ _ _ _ _ _ (.q _ _) _; refine D_q rfl ?_) | (show drJ _ _ _ _ _ _ _ (.e _ _) _; refine D_e rfl ?_) | (show drQ _ _ _ _ _ _; first | refine D_ev rfl (Ev_pure rfl) rfl rfl ?_ | (show drQ _ _ _ ⟨_, .indexAddr _ _ _, _, _, _, _⟩ _ _; refine D_ev rfl (Ev_indexAddr rfl rfl (by omega) (by omega)) rfl rfl ?_) | (show drQ _ _ _ ⟨_, .fieldAddr _ _ _, _, _, _, _⟩ _ _; refine D_ev rfl (Ev_fieldAddr rfl rfl rfl) rfl rfl ?_)) | (show opsA _ _ _ _ _ _ _; first | refine O_ev WideF.wide rfl (Ev_pure rfl) rfl rfl ?_ | (show opsA _ _ _ _ (⟨_, .binOp _ _ _ _ _, _, _, _, _⟩ :: _) _ _; refine O_ev WideF.wide rfl (Ev_add rfl rfl (wi64 (by omega))) rfl rfl ?_)))
            refine Shift.to ⟨_, ?_, i + 1, I7, _, rfl, by omega, (hl4.trans hle5).trans (hle6.trans hle7), by rw [hsn]; exact hI7, rfl⟩ ⟨rfl, rfl, rfl, ⟨rfl, rfl, rfl, rfl, rfl, rfl, trivial⟩, Own.sub_refl _⟩
            omega
        · have hin3 : i = n3 := by omega
          subst hin3
          rw [List.take_of_length_le (by omega)] at hI hfi
          have hst := fun Hx => String_fn Hx b3 _ I hI (by omega)
          repeat' (first | (refine O_ef rfl (Ef_call0 WideF.wide (hst _) ⟨rfl, trivial⟩ rfl ?_); rintro u H7 I7 hle7 ⟨rfl, rfl, rfl⟩) | refine O_nil ?_ | refine A_seq ?_ | refine A_region ?_ | refine A_ret ?_ | (show opsA _ _ _ _ _ _ _; refine O_ev WideF.wide rfl (Ev_pure rfl) rfl rfl ?_) | (show wpA _ _ _ (.exit _) _ _ _ _; refine A_exit rfl ?_) | (show wpA _ _ _ (.cond _ _ _) _ _ _ _; (refine A_if rfl (fun h => ?_) (fun h => ?_) <;> try (exfalso; omega))))
          all_goals first
            | (exfalso; omega)
            | exact End_e (Ret2 rfl rfl rfl) ⟨rfl, rfl⟩
  · rw [if_pos (by simpa using he)]
    generalize lvE l q = e at hc he
    refine Fn_of _ _ Tryz.func24 rfl Tryz.ntmps24 rfl fun c => ?_
    repeat' (first | (refine O_ef rfl (Ef_call (I := []) WideF.wide (hc) ⟨rfl, rfl, trivial⟩ rfl ?_); rintro v H2 I2 hle2 ⟨rfl, rfl⟩) | refine O_nil ?_ | refine A_seq ?_ | refine A_region ?_ | refine A_ret ?_ | (show opsA _ _ _ _ _ _ _; refine O_ev WideF.wide rfl (Ev_pure rfl) rfl rfl ?_) | (show wpA _ _ _ (.cond _ _ _) _ _ _ _; (refine A_if rfl (fun h => ?_) (fun h => ?_) <;> try (exfalso; omega))))
    all_goals first
      | (exfalso; omega)
      | exact End_e (Ret2 rfl rfl rfl) ⟨rfl, rfl⟩
theorem fillS_take_len {fs ns : List Int} {ps : List Pt} (i : Nat) : (fillS fs (ps.take i) ns).length ≤ (fillS fs ps ns).length := by
  have h : ps = ps.take i ++ ps.drop i := (List.take_append_drop i ps).symm
  conv => rhs; rw [h]
  unfold fillS
  rw [List.flatMap_append, List.length_append]
  omega
set_option maxRecDepth 100000 in
set_option maxHeartbeats 4000000 in
theorem rFill_fn {H : Hp} {a : Option Addr} {n cq : Nat} {l : List Lv} (hx : HRow H a n cq 4 (l.map lvrow)) (hn : n < 68719476736)
    {a1 : Option Addr} {n1 c1 : Nat} {ps : List Pt} (hr : HRow H a1 n1 c1 3 (ps.map prow)) (hn1 : n1 < 68719476736)
    {a2 : Option Addr} {n2 c2 : Nat} {ns : List Int} (hns : HRow H a2 n2 c2 1 (ns.map irow)) (hn2 : n2 < 68719476736)
    (hin : ∀ p ∈ ps, p.lev = 0 ∨ 1 ≤ p.lev ∧ p.lev ≤ n ∧ p.lev ≤ n2) (hlen : (fillS (fmts l) ps ns).length ≤ 1000000) :
    Fn Tryz.prog 25 [.slice a n cq, .slice a1 n1 c1, .slice a2 n2 c2] H [] fun v _ I => v = sv (fillS (fmts l) ps ns) ∧ I = [] := by
  have e1 : ps.length = n1 := by have := hr.len; simpa using this
  refine Fn_of _ _ Tryz.func25 rfl Tryz.ntmps25 rfl fun c => ?_
  repeat' (first | refine O_nil ?_ | refine A_seq ?_ | refine A_region ?_ | refine A_block ?_ | (show opsA _ _ _ _ _ _ _; refine O_ev WideF.wide rfl (Ev_pure rfl) rfl rfl ?_))
  refine A_loopu (fun m st => ∃ (i : Nat) (out : List UInt8) (H4 : Hp), m = n1 - i ∧ i ≤ n1 ∧ HLe H H4 ∧ out = fillS (fmts l) (ps.take i) ns ∧ st = ⟨46, [(0, .slice a n cq), (1, .slice a1 n1 c1), (2, .slice a2 n2 c2), (7, sv out), (8, .int .i64 i)], H4, [], [], []⟩) ?_ ?_
  · exact Shift.to ⟨_, 0, [], H, rfl, by omega, HLe.refl H, by rw [List.take_zero]; rfl, rfl⟩ ⟨rfl, rfl, rfl, ⟨rfl, rfl, rfl, rfl, rfl, trivial⟩, Own.sub_nil _⟩
  · rintro m st ⟨i, out, H4, rfl, hi, hl4, hout, rfl⟩
    have hfi := fillS_take_len (fs := fmts l) (ns := ns) (ps := ps) i
    rw [← hout] at hfi
    by_cases hlt : i < n1
    · obtain ⟨b5, o5, p, rfl, hpi, hc5⟩ := hr.atm i hlt
      have hc5 := hc5.mono hl4
      have hpin := hin p (List.mem_of_getElem? hpi)
      have hsn := fillS_snoc (fmts l) ns (ps.take i) p
      rw [← take_get hpi, ← hout] at hsn
      have hfi1 := fillS_take_len (fs := fmts l) (ns := ns) (ps := ps) (i + 1)
      have hnu := fun Hx (hle : HLe H4 Hx) (hq : p.plain = false → 1 ≤ p.lev ∧ p.lev ≤ n) (v0 : Int) => Numeral_fn ((hx.mono hl4).mono hle) hn (p := p) hq v0
      obtain ⟨lit, lev, pl⟩ := p
      dsimp only at hpin hsn hnu
      have hc6 := hc5
      unfold prow at hc6
      dsimp only at hc6
      by_cases h0 : lev = 0
      · subst h0
        rw [if_pos rfl] at hsn
        rw [hsn, List.length_append] at hfi1
        repeat' (first | (refine O_ev WideF.wide rfl (Ev_loadH1 rfl (hc6 0 _ rfl)) rfl rfl ?_) | (refine O_ev WideF.wide rfl (Ev_loadH1 rfl (hc6 1 _ rfl)) rfl rfl ?_) | refine O_nil ?_ | refine A_seq ?_ | refine A_region ?_ | refine A_skip ?_ | refine A_block ?_ | (show opsA _ _ _ _ _ _ _; first | refine O_ev WideF.wide rfl (Ev_pure rfl) rfl rfl ?_ | (show opsA _ _ _ _ (⟨_, .indexAddr _ _ _, _, _, _, _⟩ :: _) _ _; refine O_ev WideF.wide rfl (Ev_indexAddr rfl rfl (by omega) (by omega)) rfl rfl ?_) | (show opsA _ _ _ _ (⟨_, .fieldAddr _ _ _, _, _, _, _⟩ :: _) _ _; refine O_ev WideF.wide rfl (Ev_fieldAddr rfl rfl rfl) rfl rfl ?_) | (show opsA _ _ _ _ (⟨_, .call _, _, _, _, _⟩ :: _) _ _; refine O_ev WideF.wide rfl (Ev_llen rfl) rfl rfl ?_) | (show opsA _ _ _ _ (⟨_, .binOp _ _ _ _ _, _, _, _, _⟩ :: _) _ _; first | refine O_ev WideF.wide rfl (Ev_add rfl rfl (wi64 (by omega))) rfl rfl ?_ | refine O_ev WideF.wide rfl (Ev_scat rfl rfl (by omega)) rfl rfl ?_)) | (show wpA _ _ _ (.cond _ _ _) _ _ _ _; (refine A_if rfl (fun h => ?_) (fun h => ?_) <;> try (exfalso; omega))))
        all_goals try (exfalso; omega)
        all_goals try (exfalso; exact absurd trivial (by assumption))
        refine Shift.to ⟨_, ?_, i + 1, out ++ lit, _, rfl, by omega, hl4, hsn.symm, rfl⟩ ⟨rfl, rfl, rfl, ⟨rfl, rfl, rfl, rfl, rfl, trivial⟩, Own.sub_nil _⟩
        omega
      · rw [if_neg h0] at hsn
        have hlv := hpin.elim (fun h => absurd h h0) id
        obtain ⟨j, rfl⟩ : ∃ j : Nat, lev = j + 1 := ⟨(lev - 1).toNat, by omega⟩
        have hj1 : (j : Int) + 1 - 1 = (j : Int) := by omega
        have hj0 : ((j : Int) + 1 - 1).toNat = j := by omega
        obtain ⟨b7, o7, rfl, hnum⟩ := HRow.geti (hns.mono hl4) (j := j) (by omega)
        rw [hj0] at hsn
        have hnu := fun Hx hle => hnu Hx hle (fun _ => by omega) (ns.getD j 0)
        rw [hsn, List.length_append] at hfi1
        have hdl := dig_len (f := fmtOf (fmts l) ⟨lit, j + 1, pl⟩) (n := ns.getD j 0) (pl := pl)
        generalize digT (fmtOf (fmts l) ⟨lit, j + 1, pl⟩) (ns.getD j 0) pl = t at *
        repeat' (first | (refine A_drawM WideF.wide (.q 0 (.q 1 (.q 2 (.q 3 (.q 4 (.q 5 (.q 6 (.q 7 (.q 8 (.q 9 (.q 10 (.q 11 (.q 12 (.q 13 (.q 14 (.e 15 (.q 16 (.r (.q 17 (.done [])))))))))))))))))))) [17] (by decide +kernel) ?_) | (refine O_ev WideF.wide rfl (Ev_loadH1 rfl (hc6 1 _ rfl)) rfl rfl ?_) | (refine D_ev rfl (Ev_loadH rfl hc5 rfl) rfl rfl ?_) | (refine D_ev rfl (Ev_loadH1 rfl (hc6 1 _ rfl)) rfl rfl ?_) | (refine D_ev rfl (Ev_loadH1 rfl hnum) rfl rfl ?_) | (refine D_ev rfl (Ev_sub rfl rfl (wi64 (by omega))) rfl rfl ?_; rw [hj1]) | (refine E_ef rfl (Ef_call (I := []) WideF.wide (hnu _ (HLe.refl _)) ⟨rfl, rfl, rfl, trivial⟩ rfl ?_); rintro u H6 I6 hle6 ⟨rfl, rfl⟩; refine ⟨⟨hle6, rfl⟩, ?_⟩) | refine O_nil ?_ | refine A_seq ?_ | refine A_region ?_ | refine A_skip ?_ | refine A_block ?_ | (show drJ _ _ _ _ _ _ _ (.q _ _) _; refine D_q rfl ?_) | (show drJ _ _ _ _ _ _ _ (.e _ _) _; refine D_e rfl ?_) | (show drJ _ _ _ _ _ _ _ (.r _) _; refine D_r ?_; simp only [List.cons_append, List.nil_append]) | (show drJ _ _ _ _ _ _ _ (.done _) _; refine D_done ?_; simp only [List.cons_append, List.nil_append]) | (show drQ _ _ _ _ _ _; first | refine D_ev rfl (Ev_pure rfl) rfl rfl ?_ | (show drQ _ _ _ ⟨_, .indexAddr _ _ _, _, _, _, _⟩ _ _; refine D_ev rfl (Ev_indexAddr rfl rfl (by omega) (by omega)) rfl rfl ?_) | (show drQ _ _ _ ⟨_, .fieldAddr _ _ _, _, _, _, _⟩ _ _; refine D_ev rfl (Ev_fieldAddr rfl rfl rfl) rfl rfl ?_) | (show drQ _ _ _ ⟨_, .binOp _ _ _ _ _, _, _, _, _⟩ _ _; refine D_ev rfl (Ev_scat rfl rfl (by omega)) rfl rfl ?_)) | (show opsA _ _ _ _ _ _ _; first | refine O_ev WideF.wide rfl (Ev_pure rfl) rfl rfl ?_ | (show opsA _ _ _ _ (⟨_, .indexAddr _ _ _, _, _, _, _⟩ :: _) _ _; refine O_ev WideF.wide rfl (Ev_indexAddr rfl rfl (by omega) (by omega)) rfl rfl ?_) | (show opsA _ _ _ _ (⟨_, .fieldAddr _ _ _, _, _, _, _⟩ :: _) _ _; refine O_ev WideF.wide rfl (Ev_fieldAddr rfl rfl rfl) rfl rfl ?_) | (show opsA _ _ _ _ (⟨_, .call _, _, _, _, _⟩ :: _) _ _; refine O_ev WideF.wide rfl (Ev_llen rfl) rfl rfl ?_) | (show opsA _ _ _ _ (⟨_, .binOp _ _ _ _ _, _, _, _, _⟩ :: _) _ _; refine O_ev WideF.wide rfl (Ev_add rfl rfl (wi64 (by omega))) rfl rfl ?_)) | (show wpA _ _ _ (.cond _ _ _) _ _ _ _; (refine A_if rfl (fun h => ?_) (fun h => ?_) <;> try (exfalso; omega))))
        all_goals try (exfalso; omega)
        refine Shift.to ⟨_, ?_, i + 1, out ++ t, _, rfl, by omega, hl4.trans hle6, hsn.symm, rfl⟩ ⟨rfl, rfl, rfl, ⟨rfl, rfl, rfl, rfl, rfl, trivial⟩, Own.sub_nil _⟩
        omega
    · rw [List.take_of_length_le (by omega)] at hout
      subst hout
      repeat' (first | refine O_nil ?_ | refine A_seq ?_ | refine A_region ?_ | refine A_ret ?_ | (show opsA _ _ _ _ _ _ _; first | refine O_ev WideF.wide rfl (Ev_pure rfl) rfl rfl ?_ | (show opsA _ _ _ _ (⟨_, .call _, _, _, _, _⟩ :: _) _ _; refine O_ev WideF.wide rfl (Ev_llen rfl) rfl rfl ?_)) | (show wpA _ _ _ (.exit _) _ _ _ _; refine A_exit rfl ?_) | (show wpA _ _ _ (.cond _ _ _) _ _ _ _; (refine A_if rfl (fun h => ?_) (fun h => ?_) <;> try (exfalso; omega))))
      all_goals first
        | (exfalso; omega)
        | exact End_e (Ret1 rfl rfl) ⟨rfl, rfl⟩
theorem prs_parse (f : Int) (s : List UInt8) : prs f s = if (parseE f s).2 = 0 then some (parseE f s).1 else none := by
  cases h : prs f s with
  | none => rw [if_neg (prs_none h)]
  | some n => rw [prs_some h, if_pos rfl]
/-- the cells of a matcher -/
def MatH (H : Hp) (mb : Nat) (la : Option Addr) (n lc : Nat) (pa : Option Addr) (pn pc : Nat) (s : List UInt8) (mm : Nat) : Prop := HCells H mb 0 [.slice la n lc, .slice pa pn pc, sv s, .map (some mm)]
end Go.Proofs.YtaneeaojlkenmaaGreatDoor
