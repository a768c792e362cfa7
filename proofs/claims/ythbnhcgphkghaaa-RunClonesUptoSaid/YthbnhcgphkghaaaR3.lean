/-
  The text of a flow, by the program and by the reference.
-/
import Derived.Test.YthbnhcgphkghaaaR2
namespace Go.Proofs.Ythbnhcgphkghaaa
open Go
set_option linter.unusedVariables false
set_option linter.unusedSimpArgs false
attribute [local irreducible] wpA opsA drJ drQ drE Ef Ev Shift Fn

abbrev textSt (H : Hp) (a : Option Addr) (n cp b i : Nat) (I : Own) : Sta := ⟨23, [(3, .pointer (some ⟨b, 0, none⟩)), (6, .slice a n cp), (7, .int .i64 n), (8, .int .i64 i)], H, I, [], []⟩
set_option maxRecDepth 100000 in
theorem Text_fn {H : Hp} {a : Option Addr} {n cp : Nat} {l : List Item} (hx : FlowH H a n cp l) (hl : massL l < 1099511627776) : FnP Try.prog 19 [.slice a n cp] H (sv (ftext l)) := by
  have hn := hx.len
  have hll := massL_len l
  refine Fn_of _ _ Try.func19 rfl Try.ntmps19 rfl fun c => ?_
  repeat' (first | (refine O_ef rfl (Ef_allocO WideF.wide rfl ?_); intro b) | refine O_nil ?_ | refine A_seq ?_ | refine A_region ?_ | refine A_block ?_ | (show opsA _ _ _ _ _ _ _; first | refine O_ev WideF.wide rfl (Ev_pure rfl) rfl rfl ?_ | (show opsA _ _ _ _ (⟨_, .call _, _, _, _, _⟩ :: _) _ _; refine O_ev WideF.wide rfl (Ev_llen rfl) rfl rfl ?_)))
  refine A_loopu (fun m s => ∃ (i : Nat) (I : Own), m = n - i ∧ i ≤ n ∧ BldIs b (ftext (l.take i)) I ∧ s = textSt H a n cp b i I) ?_ ?_
  · exact Shift.to ⟨_, 0, _, rfl, by omega, BldIs.new b, rfl⟩ ⟨rfl, rfl, rfl, ⟨rfl, rfl, rfl, rfl, trivial⟩, Own.subi [0] (by decide) rfl rfl⟩
  · rintro m s ⟨i, I, rfl, hi, hI, rfl⟩
    by_cases hlt : i < n
    · obtain ⟨b', o, cs, x, rfl, hxi, hxc, hk, hc⟩ := hx.at i hlt
      have hm := massL_get hxi
      have hft := ftext_len (l.take i)
      have hit := itext_len x
      have ht2 : ftext (l.take (i + 1)) = ftext (l.take i) ++ itext x := by rw [take_get hxi, ftext_append]; simp [ftext]
      have hch := character_fn (H := H) hxc
      have hw := WriteString_fn H b (ftext (l.take i)) (itext x) I hI (by omega)
      by_cases hk1 : x.kind = 1
      · have hit1 : itext x = x.text := by simp [itext, hk1]
        rw [hit1] at hw ht2
        obtain ⟨pa, pn, pc, da, dn, dc, la, ln, lc, fa, fn, fc, ra, rn, rc, rfl, _⟩ := hxc.cells
        repeat' (first | (refine O_ef rfl (Ef_call1 WideF.wide hw ⟨rfl, rfl, trivial⟩ rfl ?_); rintro u H' I' hle ⟨rfl, hI'⟩) | refine O_nil ?_ | refine A_seq ?_ | refine A_region ?_ | refine A_skip ?_ | refine A_block ?_ | (show opsA _ _ _ _ _ _ _; first | refine O_ev WideF.wide rfl (Ev_pure rfl) rfl rfl ?_ | (show opsA _ _ _ _ (⟨_, .load _ _, _, _, _, _⟩ :: _) _ _; first | refine O_ev WideF.wide rfl (Ev_loadB1 (i := 0) rfl rfl rfl) rfl rfl ?_ | refine O_ev WideF.wide rfl (Ev_loadH rfl (by assumption) (by rfl)) rfl rfl ?_) | (show opsA _ _ _ _ (⟨_, .indexAddr _ _ _, _, _, _, _⟩ :: _) _ _; refine O_ev WideF.wide rfl (Ev_indexAddr rfl rfl (by omega) (by omega)) rfl rfl ?_) | (show opsA _ _ _ _ (⟨_, .fieldAddr _ _ _, _, _, _, _⟩ :: _) _ _; refine O_ev WideF.wide rfl (Ev_fieldAddr rfl rfl rfl) rfl rfl ?_) | (show opsA _ _ _ _ (⟨_, .binOp _ _ _ _ _, _, _, _, _⟩ :: _) _ _; refine O_ev WideF.wide rfl (Ev_add rfl rfl (wi64 (by omega))) rfl rfl ?_) | (show opsA _ _ _ _ (⟨_, .alloc _, _, _, _, _⟩ :: _) _ _; (refine O_ef rfl (Ef_alloc WideF.wide rfl ?_); intro b)) | (show opsA _ _ _ _ (⟨_, .store _ _ _, _, _, _, _⟩ :: _) _ _; refine O_ef rfl (Ef_storew WideF.wide rfl rfl rfl rfl rfl ?_))) | (show wpA _ _ _ (.cond _ _ _) _ _ _ _; (refine A_if rfl (fun h => ?_) (fun h => ?_) <;> try (exfalso; omega))))
        refine Shift.to ⟨_, ?_, i + 1, I', rfl, by omega, by rw [ht2]; exact hI', rfl⟩ ⟨rfl, rfl, rfl, ⟨rfl, rfl, rfl, rfl, trivial⟩, Own.sub_tail _ _⟩
        omega
      · have hit1 : itext x = chr x := by simp [itext, hk1]
        rw [hit1] at hw ht2
        obtain ⟨pa, pn, pc, da, dn, dc, la, ln, lc, fa, fn, fc, ra, rn, rc, rfl, _⟩ := hxc.cells
        repeat' (first | (refine O_ef rfl (Ef_callp WideF.wide hch ⟨rfl, trivial⟩ rfl ?_)) | (refine O_ef rfl (Ef_call1 WideF.wide hw ⟨rfl, rfl, trivial⟩ rfl ?_); rintro u H' I' hle ⟨rfl, hI'⟩) | refine O_nil ?_ | refine A_seq ?_ | refine A_region ?_ | refine A_skip ?_ | refine A_block ?_ | (show opsA _ _ _ _ _ _ _; first | refine O_ev WideF.wide rfl (Ev_pure rfl) rfl rfl ?_ | (show opsA _ _ _ _ (⟨_, .load _ _, _, _, _, _⟩ :: _) _ _; first | refine O_ev WideF.wide rfl (Ev_loadB1 (i := 0) rfl rfl rfl) rfl rfl ?_ | refine O_ev WideF.wide rfl (Ev_loadB (i := 0) rfl rfl rfl) rfl rfl ?_ | refine O_ev WideF.wide rfl (Ev_loadH rfl (by assumption) (by rfl)) rfl rfl ?_) | (show opsA _ _ _ _ (⟨_, .indexAddr _ _ _, _, _, _, _⟩ :: _) _ _; refine O_ev WideF.wide rfl (Ev_indexAddr rfl rfl (by omega) (by omega)) rfl rfl ?_) | (show opsA _ _ _ _ (⟨_, .fieldAddr _ _ _, _, _, _, _⟩ :: _) _ _; refine O_ev WideF.wide rfl (Ev_fieldAddr rfl rfl rfl) rfl rfl ?_) | (show opsA _ _ _ _ (⟨_, .binOp _ _ _ _ _, _, _, _, _⟩ :: _) _ _; refine O_ev WideF.wide rfl (Ev_add rfl rfl (wi64 (by omega))) rfl rfl ?_) | (show opsA _ _ _ _ (⟨_, .alloc _, _, _, _, _⟩ :: _) _ _; (refine O_ef rfl (Ef_alloc WideF.wide rfl ?_); intro b)) | (show opsA _ _ _ _ (⟨_, .store _ _ _, _, _, _, _⟩ :: _) _ _; refine O_ef rfl (Ef_storew WideF.wide rfl rfl rfl rfl rfl ?_))) | (show wpA _ _ _ (.cond _ _ _) _ _ _ _; (refine A_if rfl (fun h => ?_) (fun h => ?_) <;> try (exfalso; omega))))
        refine Shift.to ⟨_, ?_, i + 1, I', rfl, by omega, by rw [ht2]; exact hI', rfl⟩ ⟨rfl, rfl, rfl, ⟨rfl, rfl, rfl, rfl, trivial⟩, Own.sub_tail _ _⟩
        omega
    · have hin : i = n := by omega
      subst hin
      have htk : l.take i = l := by rw [← hn, List.take_length]
      rw [htk] at hI
      have hs := String_fn H b _ I hI (by have := ftext_len l; omega)
      repeat' (first | (refine O_ef rfl (Ef_call0 WideF.wide hs ⟨rfl, trivial⟩ rfl ?_); rintro u H' I' hle ⟨rfl, rfl, rfl⟩) | refine O_nil ?_ | refine A_seq ?_ | refine A_region ?_ | refine A_ret ?_ | (show opsA _ _ _ _ _ _ _; refine O_ev WideF.wide rfl (Ev_pure rfl) rfl rfl ?_) | (show wpA _ _ _ (.exit _) _ _ _ _; refine A_exit rfl ?_) | (show wpA _ _ _ (.cond _ _ _) _ _ _ _; (refine A_if rfl (fun h => ?_) (fun h => ?_) <;> try (exfalso; omega))))
      (refine End_p (Ret1 rfl rfl) ?_)
      rfl

abbrev rtextSt (H : Hp) (a : Option Addr) (n cp : Nat) (s : List UInt8) (i : Nat) : Sta := ⟨32, [(0, .slice a n cp), (3, sv s), (4, .int .i64 i)], H, [], [], []⟩
set_option maxRecDepth 100000 in
theorem rText_fn {H : Hp} {a : Option Addr} {n cp : Nat} {l : List Item} (hx : FlowH H a n cp l) (hl : massL l < 1099511627776) : FnP Try.prog 21 [.slice a n cp] H (sv (ftext l)) := by
  have hn := hx.len
  have hll := massL_len l
  refine Fn_of _ _ Try.func21 rfl Try.ntmps21 rfl fun c => ?_
  repeat' (first | refine O_nil ?_ | refine A_seq ?_ | refine A_region ?_ | refine A_block ?_ | (show opsA _ _ _ _ _ _ _; refine O_ev WideF.wide rfl (Ev_pure rfl) rfl rfl ?_))
  refine A_loopu (fun m s => ∃ (i : Nat) (t : List UInt8), m = n - i ∧ i ≤ n ∧ t = ftext (l.take i) ∧ s = rtextSt H a n cp t i) ?_ ?_
  · exact Shift.to ⟨_, 0, [], rfl, by omega, by simp [ftext], rfl⟩ ⟨rfl, rfl, rfl, ⟨rfl, rfl, rfl, trivial⟩, Own.sub_nil _⟩
  · rintro m s ⟨i, t, rfl, hi, ht, rfl⟩
    by_cases hlt : i < n
    · obtain ⟨b', o, cs, x, rfl, hxi, hxc, hk, hc⟩ := hx.at i hlt
      have hm := massL_get hxi
      have hft := ftext_len (l.take i)
      have hit := itext_len x
      have ht2 : ftext (l.take (i + 1)) = t ++ itext x := by rw [take_get hxi, ftext_append, ht]; simp [ftext]
      have hch := Character_fn (H := H) hxc
      have htl : t.length ≤ 3 * massL (l.take i) := by rw [ht]; exact hft
      by_cases hk1 : x.kind = 1
      · have hit1 : itext x = x.text := by simp [itext, hk1]
        rw [hit1] at ht2 hit
        obtain ⟨pa, pn, pc, da, dn, dc, la, ln, lc, fa, fn, fc, ra, rn, rc, rfl, _⟩ := hxc.cells
        repeat' (first | refine O_nil ?_ | refine A_seq ?_ | refine A_region ?_ | refine A_skip ?_ | refine A_block ?_ | (show opsA _ _ _ _ _ _ _; first | refine O_ev WideF.wide rfl (Ev_pure rfl) rfl rfl ?_ | (show opsA _ _ _ _ (⟨_, .load _ _, _, _, _, _⟩ :: _) _ _; first | refine O_ev WideF.wide rfl (Ev_loadH1 rfl (hc 0 _ rfl)) rfl rfl ?_ | refine O_ev WideF.wide rfl (Ev_loadH1 rfl (hc 3 _ rfl)) rfl rfl ?_) | (show opsA _ _ _ _ (⟨_, .indexAddr _ _ _, _, _, _, _⟩ :: _) _ _; refine O_ev WideF.wide rfl (Ev_indexAddr rfl rfl (by omega) (by omega)) rfl rfl ?_) | (show opsA _ _ _ _ (⟨_, .fieldAddr _ _ _, _, _, _, _⟩ :: _) _ _; refine O_ev WideF.wide rfl (Ev_fieldAddr rfl rfl rfl) rfl rfl ?_) | (show opsA _ _ _ _ (⟨_, .call _, _, _, _, _⟩ :: _) _ _; refine O_ev WideF.wide rfl (Ev_llen rfl) rfl rfl ?_) | (show opsA _ _ _ _ (⟨_, .binOp _ _ _ _ _, _, _, _, _⟩ :: _) _ _; first | refine O_ev WideF.wide rfl (Ev_add rfl rfl (wi64 (by omega))) rfl rfl ?_ | refine O_ev WideF.wide rfl (Ev_scat rfl rfl (by omega)) rfl rfl ?_)) | (show wpA _ _ _ (.cond _ _ _) _ _ _ _; (refine A_if rfl (fun h => ?_) (fun h => ?_) <;> try (exfalso; omega))))
        refine Shift.to ⟨_, ?_, i + 1, _, rfl, by omega, ht2.symm, rfl⟩ ⟨rfl, rfl, rfl, ⟨rfl, rfl, rfl, trivial⟩, Own.sub_nil _⟩
        omega
      · have hit1 : itext x = chr x := by simp [itext, hk1]
        rw [hit1] at ht2 hit
        obtain ⟨pa, pn, pc, da, dn, dc, la, ln, lc, fa, fn, fc, ra, rn, rc, rfl, _⟩ := hxc.cells
        repeat' (first | (refine O_ef rfl (Ef_callp WideF.wide hch ⟨rfl, trivial⟩ rfl ?_)) | refine O_nil ?_ | refine A_seq ?_ | refine A_region ?_ | refine A_skip ?_ | refine A_block ?_ | (show opsA _ _ _ _ _ _ _; first | refine O_ev WideF.wide rfl (Ev_pure rfl) rfl rfl ?_ | (show opsA _ _ _ _ (⟨_, .load _ _, _, _, _, _⟩ :: _) _ _; first | refine O_ev WideF.wide rfl (Ev_loadH1 rfl (hc 0 _ rfl)) rfl rfl ?_ | refine O_ev WideF.wide rfl (Ev_loadH rfl (by assumption) (by rfl)) rfl rfl ?_) | (show opsA _ _ _ _ (⟨_, .indexAddr _ _ _, _, _, _, _⟩ :: _) _ _; refine O_ev WideF.wide rfl (Ev_indexAddr rfl rfl (by omega) (by omega)) rfl rfl ?_) | (show opsA _ _ _ _ (⟨_, .fieldAddr _ _ _, _, _, _, _⟩ :: _) _ _; refine O_ev WideF.wide rfl (Ev_fieldAddr rfl rfl rfl) rfl rfl ?_) | (show opsA _ _ _ _ (⟨_, .call _, _, _, _, _⟩ :: _) _ _; refine O_ev WideF.wide rfl (Ev_llen rfl) rfl rfl ?_) | (show opsA _ _ _ _ (⟨_, .binOp _ _ _ _ _, _, _, _, _⟩ :: _) _ _; first | refine O_ev WideF.wide rfl (Ev_add rfl rfl (wi64 (by omega))) rfl rfl ?_ | refine O_ev WideF.wide rfl (Ev_scat rfl rfl (by omega)) rfl rfl ?_)) | (show wpA _ _ _ (.cond _ _ _) _ _ _ _; (refine A_if rfl (fun h => ?_) (fun h => ?_) <;> try (exfalso; omega))))
        refine Shift.to ⟨_, ?_, i + 1, _, rfl, by omega, ht2.symm, rfl⟩ ⟨rfl, rfl, rfl, ⟨rfl, rfl, rfl, trivial⟩, Own.sub_nil _⟩
        omega
    · have hin : i = n := by omega
      subst hin
      have htk : l.take i = l := by rw [← hn, List.take_length]
      rw [htk] at ht
      repeat' (first | refine O_nil ?_ | refine A_seq ?_ | refine A_region ?_ | refine A_ret ?_ | (show opsA _ _ _ _ _ _ _; first | refine O_ev WideF.wide rfl (Ev_pure rfl) rfl rfl ?_ | (show opsA _ _ _ _ (⟨_, .call _, _, _, _, _⟩ :: _) _ _; refine O_ev WideF.wide rfl (Ev_llen rfl) rfl rfl ?_)) | (show wpA _ _ _ (.exit _) _ _ _ _; refine A_exit rfl ?_) | (show wpA _ _ _ (.cond _ _ _) _ _ _ _; (refine A_if rfl (fun h => ?_) (fun h => ?_) <;> try (exfalso; omega))))
      (refine End_p (Ret1 rfl rfl) ?_)
      rw [ht]
end Go.Proofs.Ythbnhcgphkghaaa
