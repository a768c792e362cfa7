/-
  The law RunLengths.
-/
import Derived.Test.YthbnhcgphkghaaaR22
namespace Go.Proofs.Ythbnhcgphkghaaa
open Go
set_option linter.unusedVariables false
set_option linter.unusedSimpArgs false

theorem units_split {x : Item} (h : x.ok) : x.units = x.split.length := by
  unfold Item.units Item.split
  by_cases hk : x.kind = 1
  · rw [if_pos hk, if_pos hk]
    unfold count
    rw [if_pos (h hk)]
    simp [charsOf, nchars]
  · rw [if_neg hk, if_neg hk]; rfl
theorem usum_units : ∀ {l : List Item}, okL l → usum l = (unitsL l).length
  | [], _ => by simp [usum, unitsL]
  | x :: l, h => by
    have h1 := units_split (h x (by simp))
    have h2 := usum_units (l := l) fun y hy => h y (by simp [hy])
    simp only [usum, unitsL, List.flatMap_cons, List.length_append] at *
    rw [h1, h2]; omega
theorem usum_mono (l : List Item) {i j : Nat} (h : i ≤ j) : usum (l.take i) ≤ usum (l.take j) := by
  have h1 : l.take i = (l.take j).take i := by rw [List.take_take, Nat.min_eq_left h]
  rw [h1]
  exact usum_take_le _ _
theorem SlH.cap {α : Type} {H : Hp} {R : Hp → List Value → α → Prop} {k : Nat} {a : Option Addr} {n c : Nat} {l : List α} (h : SlH H R k a n c l) : n ≤ c := by
  obtain ⟨css, h1, _⟩ := h.ex; exact h1.cap
/-- a part of a slice -/
theorem HRow.slice {H : Hp} {a : Option Addr} {n c k : Nat} {css : List (List Value)} (h : HRow H a n c k css) {i j : Nat} (h1 : i ≤ j) (h2 : j ≤ n) :
    HRow H (if c = i then a else a.map (·.add (i * k))) (j - i) (c - i) k ((css.drop i).take (j - i)) := by
  have hc := h.cap
  refine ⟨by rw [List.length_take, List.length_drop, h.len]; omega, by omega, fun hn => ?_, fun q cs hq => ?_⟩
  · have : a = none := by
      split at hn
      · exact hn
      · simpa using hn
    have := h.nil this
    omega
  · rw [List.getElem?_take] at hq
    split at hq
    · rename_i hlt
      rw [List.getElem?_drop] at hq
      obtain ⟨hl, b, o, ha, hcs⟩ := h.el (i + q) cs hq
      refine ⟨hl, b, o + i * k, ?_, ?_⟩
      · rw [if_neg (by omega), ha]
        simp [Addr.add_lit]
      · intro x v hx
        have := hcs x v hx
        rwa [show o + i * k + q * k + x = o + (i + q) * k + x by rw [Nat.add_mul]; omega]
    · cases hq
theorem SlH.slice {α : Type} {H : Hp} {R : Hp → List Value → α → Prop} {k : Nat} {a : Option Addr} {n c : Nat} {l : List α} (h : SlH H R k a n c l) {i j : Nat} (h1 : i ≤ j) (h2 : j ≤ n) :
    SlH H R k (if c = i then a else a.map (·.add (i * k))) (j - i) (c - i) ((l.drop i).take (j - i)) := by
  obtain ⟨css, h3, h4⟩ := h.ex
  exact ⟨_, h3.slice h1 h2, (h4.drop i).take (j - i)⟩
attribute [local irreducible] wpA opsA drJ drQ drE Ef Ev Shift Fn
abbrev rlSt (H : Hp) (a : Option Addr) (n cq : Nat) (i0 : Nat) (k0 rest : Int) (j : Nat) : Sta := ⟨124, [(0, .slice a n cq), (7, .int .i64 i0), (8, .int .i64 k0), (9, .int .i64 0), (12, .int .i64 rest), (13, .int .i64 j)], H, [], [], []⟩
set_option maxHeartbeats 4000000 in
set_option maxRecDepth 100000 in
theorem RunLengths_fn {H : Hp} {a : Option Addr} {n cq : Nat} {l : List Item} {at_ : Int} (hx0 : FlowH H a n cq l) (hm : massL l < 34359738368) (hat : -9223372036854775808 ≤ at_ ∧ at_ < 9223372036854775808) :
    Fn Try.prog 3 [.slice a n cq, .int .i64 at_] H [] fun v _ I' => v = .bool true ∧ I' = [] := by
  have hn := hx0.len
  have hcap := hx0.cap
  have hml := massL_len l
  have hub := usum_b l
  have hul := unitsL_len l
  have hv1 : okL l → lenV l = usum l ∧ lenE l = 0 ∧ usum l = (unitsL l).length := fun h => by unfold lenV lenE; rw [if_pos h, if_pos h]; exact ⟨rfl, rfl, usum_units h⟩
  have hv2 : ¬ okL l → lenV l = 0 ∧ lenE l = 12 := fun h => by unfold lenV lenE; rw [if_neg h, if_neg h]; exact ⟨rfl, rfl⟩
  refine Fn_of _ _ Try.func3 rfl Try.ntmps3 rfl fun c => ?_
  repeat' (first | (refine O_ef rfl (Ef_call (I := []) WideF.wide known_fn trivial rfl ?_); rintro v H1 I1 hle1 ⟨rfl, rfl⟩) | (refine O_ef rfl (Ef_buildn WideF.wide (xs := [_]) (vs := [.slice _ _ _]) rfl ⟨rfl, trivial⟩ rfl rfl rfl rfl rfl rfl ?_); intro bl; refine O_freeze (ones_of rfl) ?_; intro H2 hle2 hr2; have hx := hx0.mono (hle1.trans hle2); have hsm := Small_fn (ls := [l]) hr2 (.cons hx .nil) (by intro y hy; simp at hy; subst hy; omega) (by omega); have e1 := Len_fn hx (by omega)) | (refine O_ef rfl (Ef_call (I := []) WideF.wide hsm ⟨rfl, trivial⟩ rfl ?_); rintro v H3 I3 hle3 ⟨⟨sb, rfl⟩, rfl, rfl⟩; cases sb) | (refine O_ef rfl (Ef_callp WideF.wide e1 ⟨rfl, trivial⟩ rfl ?_)) | (refine O_ef rfl (Ef_call (I := []) WideF.wide (Index_fn hx (by omega) hat) ⟨rfl, rfl, trivial⟩ rfl ?_); rintro v H4 I4 hle4 ⟨⟨hok, rfl⟩ | ⟨hok, hrg, rfl⟩ | ⟨hok, hat0, i0, hi0, hia, hib, rfl⟩, rfl⟩) | (refine O_ef rfl (Ef_call (I := []) WideF.wide (Units_fn (hx.mono hle4) (by omega)) ⟨rfl, trivial⟩ rfl ?_); rintro v H5 I5 hle5 ⟨⟨ua, un, uc, rfl, hu⟩, rfl⟩; first | (have hvv := hv1 hok; rw [decide_eq_true hok]; rw [if_pos hok] at hu; have hunl := hu.len; try have hle9 := usum_take_le l (i0 + 1)) | (have hvv := hv2 hok; rw [decide_eq_false hok])) | refine O_nil ?_ | refine A_seq ?_ | refine A_region ?_ | refine A_skip ?_ | refine A_ret ?_ | refine A_block ?_ | (show opsA _ _ _ _ _ _ _; first | (refine O_split rfl rfl (fun h => ?_) (fun h => ?_) <;> try (exfalso; omega)) | refine O_ev WideF.wide rfl (Ev_pure rfl) rfl rfl ?_ | (show opsA _ _ _ _ (⟨_, .call _, _, _, _, _⟩ :: _) _ _; refine O_ev WideF.wide rfl (Ev_llen rfl) rfl rfl ?_) | (show opsA _ _ _ _ (⟨_, .unOp _ _ _, _, _, _, _⟩ :: _) _ _; refine O_ev WideF.wide rfl (Ev_notb rfl) rfl rfl ?_) | refine O_skip WideF.wide rfl rfl rfl ?_) | (show wpA _ _ _ (.cond _ _ _) _ _ _ _; first | (refine A_if rfl (fun h => ?_) (fun h => ?_) <;> try (exfalso; omega)) | refine A_iftrue rfl ?_ | refine A_iffalse rfl ?_))
  · exact End_e (Ret1 rfl rfl) ⟨rfl, rfl⟩
  · exact End_e (Ret1 rfl rfl) ⟨rfl, rfl⟩
  · exact End_e (Ret1 rfl rfl) ⟨rfl, rfl⟩
  · exact End_e (Ret1 rfl rfl) ⟨rfl, rfl⟩
  · have hle35 : HLe H3 H5 := hle4.trans hle5
    refine A_loopu (fun m s => ∃ (H6 : Hp) (j : Nat) (rest : Int), m = n - j ∧ j ≤ n ∧ HLe H3 H6 ∧ usum (l.take j) ≤ at_ ∧ rest = at_ - usum (l.take j) ∧ s = rlSt H6 a n cq i0 (at_ - usum (l.take i0)) rest j) ?_ ?_
    · exact Shift.to ⟨_, H5, 0, at_, rfl, by omega, hle35, by simp [usum]; omega, by simp [usum], rfl⟩ ⟨rfl, rfl, rfl, ⟨rfl, rfl, rfl, rfl, rfl, rfl, trivial⟩, Own.sub_nil _⟩
    · rintro m s ⟨H6, j, rest, rfl, hj, hle6, hja, hrest, rfl⟩
      by_cases hlt : j < n
      · obtain ⟨x, hxj⟩ : ∃ x, l[j]? = some x := ⟨l[j], List.getElem?_eq_getElem (by omega)⟩
        have hxm := massL_mem hxj
        have hxg := massL_get hxj
        have hxok : x.ok := hok x (List.mem_of_getElem? hxj)
        have hxs := units_split hxok
        have hxb := x.units_b
        have ht2 : usum (l.take (j + 1)) = usum (l.take j) + x.units := by rw [take_get hxj, usum_append]; simp [usum]
        have hsl : (l.drop j).take (j + 1 - j) = [x] := by
          rw [show j + 1 - j = 1 by omega]
          have := (List.getElem?_eq_some_iff.1 hxj)
          obtain ⟨h1, h2⟩ := this
          rw [List.drop_eq_getElem_cons h1, h2]; rfl
        have hsub := SlH.slice (hx.mono hle6) (i := j) (j := j + 1) (by omega) (by omega)
        rw [hsl] at hsub
        have hou : okL [x] := fun y hy => by simp at hy; subst hy; exact hxok
        have hmx : massL [x] < 68719476736 := by simp [massL]; omega
        have hun := Units_fn hsub hmx
        have hu1 : unitsL [x] = x.split := by simp [unitsL]
        rw [if_pos hou, decide_eq_true hou, hu1] at hun
        have hub2 := usum_b (l.take j)
        generalize hus : usum (l.take j) = tj at *
        repeat' (first | (refine O_ev WideF.wide rfl (Ev_lslice rfl rfl rfl (by omega) (by omega) (by omega)) rfl rfl ?_) | (refine O_ef rfl (Ef_call (I := []) WideF.wide hun ⟨rfl, trivial⟩ rfl ?_); rintro v H7 I7 hle7 ⟨⟨ga, gn, gc, rfl, hg⟩, rfl⟩; have hgn := hg.len) | refine O_nil ?_ | refine A_seq ?_ | refine A_region ?_ | refine A_skip ?_ | refine A_ret ?_ | refine A_block ?_ | (show opsA _ _ _ _ _ _ _; first | (refine O_split rfl rfl (fun h => ?_) (fun h => ?_) <;> try (exfalso; omega)) | refine O_ev WideF.wide rfl (Ev_pure rfl) rfl rfl ?_ | (show opsA _ _ _ _ (⟨_, .call _, _, _, _, _⟩ :: _) _ _; refine O_ev WideF.wide rfl (Ev_llen rfl) rfl rfl ?_) | (show opsA _ _ _ _ (⟨_, .binOp _ _ _ _ _, _, _, _, _⟩ :: _) _ _; first | refine O_ev WideF.wide rfl (Ev_add rfl rfl (wi64 (by omega))) rfl rfl ?_ | refine O_ev WideF.wide rfl (Ev_sub rfl rfl (wi64 (by omega))) rfl rfl ?_) | refine O_skip WideF.wide rfl rfl rfl ?_) | (show wpA _ _ _ (.cond _ _ _) _ _ _ _; (refine A_if rfl (fun h => ?_) (fun h => ?_) <;> try (exfalso; omega))))
        · refine End_e (Ret1 rfl rfl) ⟨?_, rfl⟩
          have hij : i0 = j := by omega
          rw [decide_eq_true]
          rw [hij, hus, hrest]
        · exfalso
          have hne : i0 ≠ j := by omega
          rcases Nat.lt_or_gt_of_ne hne with h1 | h1
          · have := usum_mono l (show i0 + 1 ≤ j by omega)
            omega
          · have := usum_mono l (show j + 1 ≤ i0 by omega)
            omega
        · refine Shift.to ⟨_, ?_, H7, j + 1, _, rfl, by omega, hle6.trans hle7, ?_, ?_, rfl⟩ ⟨rfl, rfl, rfl, ⟨rfl, rfl, rfl, rfl, rfl, rfl, trivial⟩, Own.sub_nil _⟩
          · omega
          · omega
          · omega
      · have hjn : n = j := by omega
        subst hjn
        exfalso
        rw [← hn, List.take_length] at hja
        omega
end Go.Proofs.Ythbnhcgphkghaaa
