/-
  run: units, Len, items, Index.
-/
import Derived.Test.YtofkolbnhcckkaaGreatD2
namespace Go.Proofs.YtofkolbnhcckkaaGreat
open Go
set_option linter.unusedVariables false
set_option linter.unusedSimpArgs false
attribute [local irreducible] wpA opsA drJ drQ drE Ef Ev Shift Fn

def uErr (x : Item) : Int := if x.kind = 1 then utf8 x.text else 0
theorem uErr_ok {x : Item} : uErr x = 0 ↔ x.ok := by
  unfold uErr Item.ok utf8
  split
  · split <;> simp [*]
  · simp [*]
set_option maxRecDepth 100000 in
theorem units_fn {H : Hp} {cs : List Value} {x : Item} (hx : ItemH H cs x) (hl : x.text.length < 4611686018427387904) : FnP Tryz.prog 72 [.agg cs.toArray] H (.tuple [.int .i64 x.units, .int .i64 (uErr x)].toArray) := by
  obtain ⟨pa, pn, pc, da, dn, dc, la, ln, lc, fa, fn, fc, ra, rn, rc, rfl, _⟩ := hx.cells
  have hc := Count_fn H x.text hl
  refine Fn_of _ _ Tryz.func72 rfl Tryz.ntmps72 rfl fun c => ?_
  repeat' (first | (refine O_ef rfl (Ef_callp WideF.wide hc ⟨rfl, trivial⟩ rfl ?_)) | refine O_nil ?_ | refine A_seq ?_ | refine A_region ?_ | refine A_skip ?_ | refine A_ret ?_ | (show opsA _ _ _ _ _ _ _; first | refine O_ev WideF.wide rfl (Ev_pure rfl) rfl rfl ?_ | (show opsA _ _ _ _ (⟨_, .load _ _, _, _, _, _⟩ :: _) _ _; refine O_ev WideF.wide rfl (Ev_loadB1 (i := 0) rfl rfl rfl) rfl rfl ?_) | (show opsA _ _ _ _ (⟨_, .fieldAddr _ _ _, _, _, _, _⟩ :: _) _ _; refine O_ev WideF.wide rfl (Ev_fieldAddr rfl rfl rfl) rfl rfl ?_) | (show opsA _ _ _ _ (⟨_, .box _ _, _, _, _, _⟩ :: _) _ _; (refine O_ef rfl (Ef_boxa WideF.wide rfl rfl ?_); intro b))) | (show wpA _ _ _ (.cond _ _ _) _ _ _ _; (refine A_if rfl (fun h => ?_) (fun h => ?_) <;> try (exfalso; omega))))
  · (refine End_p (Ret2 rfl rfl rfl) ?_)
    simp [Item.units, uErr, h]
  · have hk : x.kind = 1 := Decidable.not_not.1 h
    (refine End_p (Ret2 rfl rfl rfl) ?_)
    simp [Item.units, uErr, hk]

/-- every text is valid -/
def okL (l : List Item) : Prop := ∀ x ∈ l, x.ok
instance (l : List Item) : Decidable (okL l) := by unfold okL; infer_instance
theorem okL_snoc {l : List Item} {i : Nat} {x : Item} (h : l[i]? = some x) : okL (l.take (i + 1)) ↔ okL (l.take i) ∧ x.ok := by
  rw [take_get h]
  unfold okL
  constructor
  · intro hh; exact ⟨fun y hy => hh y (by simp [hy]), hh x (by simp)⟩
  · rintro ⟨h1, h2⟩ y hy
    rcases List.mem_append.1 hy with h | h
    · exact h1 y h
    · simp at h; subst h; exact h2
def lenV (l : List Item) : Int := if okL l then usum l else 0
def lenE (l : List Item) : Int := if okL l then 0 else 12
abbrev lenSt (H : Hp) (a : Option Addr) (n cp : Nat) (s : Int) (i : Nat) : Sta := ⟨27, [(4, .int .i64 s), (9, .slice a n cp), (10, .int .i64 n), (11, .int .i64 i)], H, [], [], []⟩
set_option maxRecDepth 100000 in
theorem Len_fn {H : Hp} {a : Option Addr} {n cp : Nat} {l : List Item} (hx : FlowH H a n cp l) (hl : massL l < 1099511627776) : FnP Tryz.prog 47 [.slice a n cp] H (.tuple [.int .i64 (lenV l), .int .i64 (lenE l)].toArray) := by
  have hn := hx.len
  have hle := massL_len l
  refine Fn_of _ _ Tryz.func47 rfl Tryz.ntmps47 rfl fun c => ?_
  repeat' (first | refine O_nil ?_ | refine A_seq ?_ | refine A_region ?_ | refine A_block ?_ | (show opsA _ _ _ _ _ _ _; first | refine O_ev WideF.wide rfl (Ev_pure rfl) rfl rfl ?_ | (show opsA _ _ _ _ (⟨_, .call _, _, _, _, _⟩ :: _) _ _; refine O_ev WideF.wide rfl (Ev_llen rfl) rfl rfl ?_)))
  refine A_loopu (fun m s => ∃ (i : Nat) (t : Int), m = n - i ∧ i ≤ n ∧ okL (l.take i) ∧ t = usum (l.take i) ∧ s = lenSt H a n cp t i) ?_ ?_
  · exact Shift.to ⟨_, 0, 0, rfl, by omega, by simp [okL], by simp [usum], rfl⟩ ⟨rfl, rfl, rfl, ⟨rfl, rfl, rfl, rfl, trivial⟩, Own.sub_nil _⟩
  · rintro m s ⟨i, t, rfl, hi, hok, ht, rfl⟩
    have hub := usum_b (l.take i)
    by_cases hlt : i < n
    · obtain ⟨b, o, cs, x, rfl, hxi, hxc, hk, hc⟩ := hx.at i hlt
      have hm := massL_get hxi
      have hm2 := massL_mem hxi
      have hxb := x.units_b
      have hu := units_fn hxc (by omega)
      have hs := okL_snoc hxi
      have ht2 : usum (l.take (i + 1)) = t + x.units := by rw [take_get hxi, usum_append, ht]; simp [usum]
      obtain ⟨pa, pn, pc, da, dn, dc, la, ln, lc, fa, fn, fc, ra, rn, rc, rfl, _⟩ := hxc.cells
      repeat' (first | (refine O_ef rfl (Ef_callp WideF.wide hu ⟨rfl, trivial⟩ rfl ?_)) | refine O_nil ?_ | refine A_seq ?_ | refine A_region ?_ | refine A_skip ?_ | refine A_ret ?_ | refine A_block ?_ | (show opsA _ _ _ _ _ _ _; first | refine O_ev WideF.wide rfl (Ev_pure rfl) rfl rfl ?_ | (show opsA _ _ _ _ (⟨_, .load _ _, _, _, _, _⟩ :: _) _ _; first | refine O_ev WideF.wide rfl (Ev_loadB (i := 0) rfl rfl rfl) rfl rfl ?_ | refine O_ev WideF.wide rfl (Ev_loadH rfl (by assumption) (by rfl)) rfl rfl ?_) | (show opsA _ _ _ _ (⟨_, .indexAddr _ _ _, _, _, _, _⟩ :: _) _ _; refine O_ev WideF.wide rfl (Ev_indexAddr rfl rfl (by omega) (by omega)) rfl rfl ?_) | (show opsA _ _ _ _ (⟨_, .binOp _ _ _ _ _, _, _, _, _⟩ :: _) _ _; refine O_ev WideF.wide rfl (Ev_add rfl rfl (wi64 (by omega))) rfl rfl ?_) | (show opsA _ _ _ _ (⟨_, .alloc _, _, _, _, _⟩ :: _) _ _; (refine O_ef rfl (Ef_alloc WideF.wide rfl ?_); intro b)) | (show opsA _ _ _ _ (⟨_, .store _ _ _, _, _, _, _⟩ :: _) _ _; refine O_ef rfl (Ef_storew WideF.wide rfl rfl rfl rfl rfl ?_))) | (show wpA _ _ _ (.cond _ _ _) _ _ _ _; (refine A_if rfl (fun h => ?_) (fun h => ?_) <;> try (exfalso; omega))))
      · (refine End_p (Ret2 rfl rfl rfl) ?_)
        have hno : ¬ okL l := fun hh => by
          have : x.ok := hh x (List.mem_of_getElem? hxi)
          exact absurd (uErr_ok.2 this) (by assumption)
        simp [lenV, lenE, hno]
      · refine Shift.to ⟨_, ?_, i + 1, t + x.units, rfl, by omega, ?_, ht2.symm, rfl⟩ ⟨rfl, rfl, rfl, ⟨rfl, rfl, rfl, rfl, trivial⟩, Own.sub_nil _⟩
        · omega
        · exact hs.2 ⟨hok, uErr_ok.1 (by omega)⟩
    · have hin : i = n := by omega
      subst hin
      have htk : l.take i = l := by rw [← hn, List.take_length]
      rw [htk] at hok ht
      repeat' (first | refine O_nil ?_ | refine A_seq ?_ | refine A_region ?_ | refine A_ret ?_ | (show opsA _ _ _ _ _ _ _; refine O_ev WideF.wide rfl (Ev_pure rfl) rfl rfl ?_) | (show wpA _ _ _ (.exit _) _ _ _ _; refine A_exit rfl ?_) | (show wpA _ _ _ (.cond _ _ _) _ _ _ _; (refine A_if rfl (fun h => ?_) (fun h => ?_) <;> try (exfalso; omega))))
      (refine End_p (Ret2 rfl rfl rfl) ?_)
      simp [lenV, lenE, hok, ht]
end Go.Proofs.YtofkolbnhcckkaaGreat
