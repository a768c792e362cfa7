/-
  run.IsNormal, run.Slice; a Table that goes.
-/
import Derived.Test.YthbnhcgphkghaaaD3
import Derived.Test.YthbnhcgphkghaaaR25
namespace Go.Proofs.Ythbnhcgphkghaaa
open Go
set_option linter.unusedVariables false
set_option linter.unusedSimpArgs false
attribute [local irreducible] wpA opsA drJ drQ drE Ef Ev Shift Fn

set_option maxRecDepth 100000 in
theorem IsNormal_fn {H : Hp} {a : Option Addr} {n cp : Nat} {l : List Item} (hx : FlowH H a n cp l) (hl : massL l < 34359738368) : Fn Try.prog 30 [.slice a n cp] H [] fun v H' I' => v = .bool (decide (l = normL l)) ∧ I' = [] := by
  refine Fn_of _ _ Try.func30 rfl Try.ntmps30 rfl fun c => ?_
  repeat' (first | (refine O_ef rfl (Ef_call (I := []) WideF.wide (Normal_fn hx (by omega)) ⟨rfl, trivial⟩ rfl ?_); rintro v H1 I1 hle1 ⟨⟨oa, on, oc, rfl, hf⟩, rfl⟩; have e1 := Equal_fn (hx.mono hle1) hf (by omega)) | (refine O_ef rfl (Ef_callp WideF.wide e1 ⟨rfl, rfl, trivial⟩ rfl ?_)) | refine O_nil ?_ | refine A_seq ?_ | refine A_region ?_ | refine A_ret ?_ | (show opsA _ _ _ _ _ _ _; refine O_ev WideF.wide rfl (Ev_pure rfl) rfl rfl ?_))
  exact End_e (Ret1 rfl rfl) ⟨rfl, rfl⟩
set_option maxRecDepth 100000 in
theorem Slice_fn {H : Hp} {a : Option Addr} {n cp : Nat} {l : List Item} {f t : Int} (hx : FlowH H a n cp l) (hl : massL l < 68719476736) : Fn Try.prog 32 [.slice a n cp, .int .i64 f, .int .i64 t] H [] fun v H' I' =>
    (∃ ra rn rc, v = .tuple [.slice ra rn rc, .int .i64 (rngE l f t)].toArray ∧ FlowH H' ra rn rc (if rngE l f t = 0 then normL (rFlow f 0 (lFlow t 0 l)) else [])) ∧ I' = [] := by
  have hck := check_fn (f := f) (t := t) hx (by omega)
  have hub := usum_b l
  have hlm := lFlow_mass t 0 l
  have hrm := rFlow_mass f 0 (lFlow t 0 l)
  refine Fn_of _ _ Try.func32 rfl Try.ntmps32 rfl fun c => ?_
  repeat' (first | (refine O_ef rfl (Ef_callp WideF.wide hck ⟨rfl, rfl, rfl, trivial⟩ rfl ?_)) | refine O_nil ?_ | refine A_seq ?_ | refine A_region ?_ | refine A_skip ?_ | refine A_ret ?_ | (show opsA _ _ _ _ _ _ _; refine O_ev WideF.wide rfl (Ev_pure rfl) rfl rfl ?_) | (show wpA _ _ _ (.cond _ _ _) _ _ _ _; (refine A_if rfl (fun h => ?_) (fun h => ?_) <;> try (exfalso; omega))))
  · refine End_e (Ret2 rfl rfl rfl) ⟨⟨none, 0, 0, rfl, ?_⟩, rfl⟩
    rw [if_neg (by assumption)]; exact FlowH.nil _
  · have h0 : rngE l f t = 0 := Decidable.not_not.1 (by assumption)
    obtain ⟨hok, h1, h2, h3⟩ := rngE_ok h0
    have hdv := divide_fn (at_ := t) hx hl (by omega)
    rw [h0]
    repeat' (first | (refine O_ef rfl (Ef_call (I := []) WideF.wide hdv ⟨rfl, rfl, trivial⟩ rfl ?_); rintro v H1 I1 hle1 ⟨⟨la, ln, lc, ra, rn, rc, rfl, hL, hR⟩, rfl⟩; have hdw := divide_fn (at_ := f) hL (by omega) (by omega)) | (refine O_ef rfl (Ef_call (I := []) WideF.wide hdw ⟨rfl, rfl, trivial⟩ rfl ?_); rintro v H2 I2 hle2 ⟨⟨la2, ln2, lc2, ra2, rn2, rc2, rfl, hL2, hR2⟩, rfl⟩) | (refine O_ef rfl (Ef_call (I := []) WideF.wide (Normal_fn hR2 (by omega)) ⟨rfl, trivial⟩ rfl ?_); rintro v H3 I3 hle3 ⟨⟨ra', rn', rc', rfl, hR3⟩, rfl⟩) | refine O_nil ?_ | refine A_seq ?_ | refine A_region ?_ | refine A_ret ?_ | (show opsA _ _ _ _ _ _ _; refine O_ev WideF.wide rfl (Ev_pure rfl) rfl rfl ?_))
    exact End_e (Ret2 rfl rfl rfl) ⟨⟨ra', rn', rc', rfl, hR3⟩, rfl⟩

def vanI (x : Item) : Prop := x.kind = 7 ∧ ∀ r ∈ x.rows, r.2 = []
theorem van_take {l : List Item} {i : Nat} {x : Item} (h : l[i]? = some x) (h0 : ¬ Van (l.take i)) (hx : ¬ vanI x) : ¬ Van (l.take (i + 1)) := by
  rintro ⟨y, hy, h1, h2⟩
  rw [take_get h] at hy
  rcases List.mem_append.1 hy with h3 | h3
  · exact h0 ⟨y, h3, h1, h2⟩
  · rw [List.mem_singleton] at h3; subst h3; exact hx ⟨h1, h2⟩
theorem van_yes {l : List Item} {i : Nat} {x : Item} (h : l[i]? = some x) (hx : vanI x) : Van l := ⟨x, List.mem_of_getElem? h, hx.1, hx.2⟩
instance : DecidablePred vanI := fun x => by unfold vanI; infer_instance
instance : DecidablePred Van := fun l => by unfold Van; infer_instance
def hasR (rows : List Row) : Bool := rows.any fun r => decide (r.2 ≠ [])
theorem hasR_snoc {rows : List Row} {k : Nat} {r : Row} (h : rows[k]? = some r) : hasR (rows.take (k + 1)) = (hasR (rows.take k) || decide (r.2 ≠ [])) := by
  unfold hasR; rw [take_get h, List.any_append]; simp
theorem hasR_no {rows : List Row} : hasR rows = false ↔ ∀ r ∈ rows, r.2 = [] := by
  unfold hasR; rw [List.any_eq_false]; simp
abbrev vnSt (H : Hp) (a : Option Addr) (n cp i : Nat) : Sta := ⟨46, [(0, .slice a n cp), (3, .int .i64 i)], H, [], [], []⟩
abbrev vkSt (H : Hp) (a : Option Addr) (n cp i : Nat) (b : Bool) (k : Nat) : Sta := ⟨46, [(0, .slice a n cp), (3, .int .i64 i), (4, .bool b), (5, .int .i64 k)], H, [], [], []⟩
set_option maxRecDepth 100000 in
theorem vanishes_fn {H : Hp} {a : Option Addr} {n cp : Nat} {l : List Item} (hx : FlowH H a n cp l) (hl : massL l < 68719476736) : FnP Try.prog 31 [.slice a n cp] H (.bool (decide (Van l))) := by
  have hn := hx.len
  have hml := massL_len l
  refine Fn_of _ _ Try.func31 rfl Try.ntmps31 rfl fun c => ?_
  repeat' (first | refine O_nil ?_ | refine A_seq ?_ | refine A_region ?_ | refine A_block ?_ | (show opsA _ _ _ _ _ _ _; refine O_ev WideF.wide rfl (Ev_pure rfl) rfl rfl ?_))
  refine A_loopu (fun m s => ∃ i : Nat, m = n - i ∧ i ≤ n ∧ ¬ Van (l.take i) ∧ s = vnSt H a n cp i) ?_ ?_
  · exact Shift.to ⟨_, 0, rfl, by omega, by rintro ⟨x, hx, _⟩; simp at hx, rfl⟩ ⟨rfl, rfl, rfl, ⟨rfl, rfl, trivial⟩, Own.sub_nil _⟩
  · rintro m s ⟨i, rfl, hi, hnv, rfl⟩
    by_cases hlt : i < n
    · obtain ⟨b', o, cs, x, rfl, hxi, hxc, hk, hc⟩ := hx.at i hlt
      have hm2 := massL_mem hxi
      obtain ⟨pa, pn, pc, da, dn, dc, la, ln, lc, fa, fn, fc, ra, rn, rc, rfl, h1, h2, h3, h4, h5⟩ := hxc.cells
      have hrn := h5.len
      have hrm := massR_len x.rows
      repeat' (first | refine O_nil ?_ | refine A_seq ?_ | refine A_region ?_ | refine A_skip ?_ | refine A_block ?_ | (show opsA _ _ _ _ _ _ _; first | refine O_ev WideF.wide rfl (Ev_pure rfl) rfl rfl ?_ | (show opsA _ _ _ _ (⟨_, .call _, _, _, _, _⟩ :: _) _ _; refine O_ev WideF.wide rfl (Ev_llen rfl) rfl rfl ?_)) | (show wpA _ _ _ (.cond _ _ _) _ _ _ _; (refine A_if rfl (fun h => ?_) (fun h => ?_) <;> try (exfalso; omega))))
      refine A_loopu (fun m s => ∃ (k : Nat) (b : Bool), m = rn - k ∧ k ≤ rn ∧ b = hasR (x.rows.take k) ∧ s = vkSt H (some ⟨b', o, none⟩) n cp i b k) ?_ ?_
      · exact Shift.to ⟨_, 0, false, rfl, by omega, by simp [hasR], rfl⟩ ⟨rfl, rfl, rfl, ⟨rfl, rfl, rfl, rfl, trivial⟩, Own.sub_nil _⟩
      · rintro m s ⟨k, b, rfl, hkn, hb, rfl⟩
        by_cases hkl : k < rn
        · obtain ⟨rb, ro, rcs, r, rfl, hri, hrc, hrk, hrH⟩ := h5.at k hkl
          have hrmm := massR_mem hri
          obtain ⟨qa, qn, qc, ua, un, uc, va, vn, vc, ca, cn, cc, rfl, g1, g2, g3, g4⟩ := hrc.cells
          have hcn := g4.len
          have hcm := massC_len r.2
          have hsn := hasR_snoc hri
          rw [← hb] at hsn
          cases b
          all_goals
            repeat' (first | (refine O_ev WideF.wide rfl (Ev_loadH1 rfl (hrH 5 _ rfl)) rfl rfl ?_) | refine O_nil ?_ | refine A_seq ?_ | refine A_region ?_ | refine A_skip ?_ | refine A_block ?_ | (show opsA _ _ _ _ _ _ _; first | refine O_ev WideF.wide rfl (Ev_pure rfl) rfl rfl ?_ | (show opsA _ _ _ _ (⟨_, .load _ _, _, _, _, _⟩ :: _) _ _; refine O_ev WideF.wide rfl (Ev_loadH1 rfl (hc 10 _ rfl)) rfl rfl ?_) | (show opsA _ _ _ _ (⟨_, .indexAddr _ _ _, _, _, _, _⟩ :: _) _ _; refine O_ev WideF.wide rfl (Ev_indexAddr rfl rfl (by omega) (by omega)) rfl rfl ?_) | (show opsA _ _ _ _ (⟨_, .fieldAddr _ _ _, _, _, _, _⟩ :: _) _ _; refine O_ev WideF.wide rfl (Ev_fieldAddr rfl rfl rfl) rfl rfl ?_) | (show opsA _ _ _ _ (⟨_, .call _, _, _, _, _⟩ :: _) _ _; refine O_ev WideF.wide rfl (Ev_llen rfl) rfl rfl ?_) | (show opsA _ _ _ _ (⟨_, .binOp _ _ _ _ _, _, _, _, _⟩ :: _) _ _; refine O_ev WideF.wide rfl (Ev_add rfl rfl (wi64 (by omega))) rfl rfl ?_) | refine O_skip WideF.wide rfl rfl rfl ?_) | (show wpA _ _ _ (.cond _ _ _) _ _ _ _; (refine A_if rfl (fun h => ?_) (fun h => ?_) <;> try (exfalso; omega))))
            refine Shift.to ⟨_, ?_, k + 1, _, rfl, by omega, ?_, rfl⟩ ⟨rfl, rfl, rfl, ⟨rfl, rfl, rfl, rfl, trivial⟩, Own.sub_nil _⟩
            · omega
            · rw [hsn]
              first
                | rfl
                | (rw [Bool.false_or]; refine decide_eq_decide.2 ?_; rw [ne_eq, ← List.length_eq_zero_iff, hcn]; omega)
        · have hkn' : rn = k := by omega
          subst hkn'
          rw [show x.rows.take rn = x.rows by rw [← hrn, List.take_length]] at hb
          cases b
          all_goals
            repeat' (first | refine O_nil ?_ | refine A_seq ?_ | refine A_region ?_ | refine A_skip ?_ | refine A_ret ?_ | (show opsA _ _ _ _ _ _ _; first | (refine O_split rfl rfl (fun h => ?_) (fun h => ?_) <;> try (exfalso; omega)) | refine O_ev WideF.wide rfl (Ev_pure rfl) rfl rfl ?_ | (show opsA _ _ _ _ (⟨_, .load _ _, _, _, _, _⟩ :: _) _ _; first | refine O_ev WideF.wide rfl (Ev_loadH1 rfl (hc 0 _ rfl)) rfl rfl ?_ | refine O_ev WideF.wide rfl (Ev_loadH1 rfl (hc 10 _ rfl)) rfl rfl ?_) | (show opsA _ _ _ _ (⟨_, .indexAddr _ _ _, _, _, _, _⟩ :: _) _ _; refine O_ev WideF.wide rfl (Ev_indexAddr rfl rfl (by omega) (by omega)) rfl rfl ?_) | (show opsA _ _ _ _ (⟨_, .fieldAddr _ _ _, _, _, _, _⟩ :: _) _ _; refine O_ev WideF.wide rfl (Ev_fieldAddr rfl rfl rfl) rfl rfl ?_) | (show opsA _ _ _ _ (⟨_, .call _, _, _, _, _⟩ :: _) _ _; refine O_ev WideF.wide rfl (Ev_llen rfl) rfl rfl ?_) | (show opsA _ _ _ _ (⟨_, .binOp _ _ _ _ _, _, _, _, _⟩ :: _) _ _; refine O_ev WideF.wide rfl (Ev_add rfl rfl (wi64 (by omega))) rfl rfl ?_) | (show opsA _ _ _ _ (⟨_, .unOp _ _ _, _, _, _, _⟩ :: _) _ _; refine O_ev WideF.wide rfl (Ev_notb rfl) rfl rfl ?_) | refine O_skip WideF.wide rfl rfl rfl ?_) | (show wpA _ _ _ (.exit _) _ _ _ _; refine A_exit rfl ?_) | (show wpA _ _ _ (.cond _ _ _) _ _ _ _; first | (refine A_if rfl (fun h => ?_) (fun h => ?_) <;> try (exfalso; omega)) | refine A_iftrue rfl ?_ | refine A_iffalse rfl ?_))
          all_goals first
            | (rw [decide_eq_true (van_yes hxi ⟨by assumption, hasR_no.1 hb.symm⟩)]
               (refine End_p (Ret1 rfl rfl) ?_)
               rfl)
            | (refine Shift.to ⟨_, ?_, i + 1, rfl, by omega, van_take hxi hnv ?_, rfl⟩ ⟨rfl, rfl, rfl, ⟨rfl, rfl, trivial⟩, Own.sub_nil _⟩
               · omega
               · rintro ⟨q1, q2⟩
                 first
                   | exact absurd q1 (by assumption)
                   | (have := hasR_no.2 q2; rw [this] at hb; cases hb))
    · have hin : n = i := by omega
      subst hin
      have htk : l.take n = l := by rw [← hn, List.take_length]
      rw [htk] at hnv
      repeat' (first | refine O_nil ?_ | refine A_seq ?_ | refine A_region ?_ | refine A_ret ?_ | (show opsA _ _ _ _ _ _ _; first | refine O_ev WideF.wide rfl (Ev_pure rfl) rfl rfl ?_ | (show opsA _ _ _ _ (⟨_, .call _, _, _, _, _⟩ :: _) _ _; refine O_ev WideF.wide rfl (Ev_llen rfl) rfl rfl ?_)) | (show wpA _ _ _ (.exit _) _ _ _ _; refine A_exit rfl ?_) | (show wpA _ _ _ (.cond _ _ _) _ _ _ _; (refine A_if rfl (fun h => ?_) (fun h => ?_) <;> try (exfalso; omega))))
      rw [decide_eq_false hnv]
      (refine End_p (Ret1 rfl rfl) ?_)
      rfl
end Go.Proofs.Ythbnhcgphkghaaa
