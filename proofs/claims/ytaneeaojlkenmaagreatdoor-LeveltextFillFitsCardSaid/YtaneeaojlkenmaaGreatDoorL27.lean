/-
  LeveltextFillFits.
-/
import Derived.Test.YtaneeaojlkenmaaGreatDoorL25
namespace Go.Proofs.YtaneeaojlkenmaaGreatDoor
open Go Go.Lib
set_option linter.unusedVariables false
set_option linter.unusedSimpArgs false
theorem fitsE_fill {l : List Lv} (h : chkLv l = 0) {k : Nat} {x : Lv} (hk : l[k]? = some x) {ns : List Int} (hn : ns.length = 9) (hb : ∀ y ∈ ns, 0 ≤ y ∧ y ≤ 999999) (hs : (fillS (fmts l) (tplE x.tpl).1 ns).length ≤ 256) :
    fitsE l ((k : Int) + 1) (fillS (fmts l) (tplE x.tpl).1 ns) = (true, 0) := by
  have hl := (List.getElem?_eq_some_iff.1 hk).1
  have hlv : lvE l ((k : Int) + 1) = 0 := by rw [lvE_ok h, if_neg (by omega)]
  unfold fitsE
  rw [hlv, if_neg (by simp), if_neg (by omega), show ((k : Int) + 1 - 1).toNat = k by omega, hk]
  dsimp only
  rw [fit_fill (fmts l) (tplE x.tpl).1 _ ns (fun p hp => parts_ok p hp) ⟨rfl, fun j hj => ?_⟩]
  have hy := hb (ns.getD j 0) (by rw [List.getD, List.getElem?_eq_getElem (by omega)]; exact List.getElem_mem _)
  refine ⟨hy.1, hy.2, .inl ?_⟩
  match j, hj with
  | 0, _ | 1, _ | 2, _ | 3, _ | 4, _ | 5, _ | 6, _ | 7, _ | 8, _ => rfl
theorem fitsE_long {l : List Lv} (h : chkLv l = 0) {k : Nat} (hk : k < l.length) {s : List UInt8} (hs : 256 < s.length) : fitsE l ((k : Int) + 1) s = (false, 10) := by
  have hlv : lvE l ((k : Int) + 1) = 0 := by rw [lvE_ok h, if_neg (by omega)]
  unfold fitsE
  rw [hlv, if_neg (by simp), if_pos hs]
attribute [local irreducible] wpA opsA drJ drQ drE Ef Ev Shift Fn
set_option maxRecDepth 100000 in
set_option maxHeartbeats 8000000 in
theorem LeveltextFillFits_fn {H : Hp} (hE : EnvH H) {a : Option Addr} {n cq : Nat} {l : List Lv} (hx : HRow H a n cq 4 (l.map lvrow)) {lv : Int} (hlv : 0 ≤ lv ∧ lv < 256) {ns : List Int} (hns : ns.length = 9) (hnb : ∀ x ∈ ns, 0 ≤ x ∧ x < 4294967296) :
    Fn Tryz.prog 7 [.slice a n cq, .int .u8 lv, .agg (ns.map (Value.int .u32)).toArray] H [] fun v _ I => v = .bool true ∧ I = [] := by
  have hs := fun Hx (h : HLe H Hx) => short_fn (hx.mono h)
  have hk := fun Hx (h : HLe H Hx) => known_fn (hE.mono h)
  have hlen := shortL_len l
  have htp := shortL_tpl l
  have hone : ∀ u ∈ ns.map (Value.int .u32), u.oneCell' = true := by
    intro u hu
    obtain ⟨x, _, rfl⟩ := List.mem_map.1 hu
    rfl
  generalize shortL l = sl at *
  have hC := fun Hx a n c (h : HRow Hx a n c 4 (sl.map lvrow)) (hn : n < 68719476736) => rCheckLevels_fn h hn htp
  by_cases hck : chkLv sl = 0
  · rw [hck] at hC
    obtain ⟨hl1, hl9, hall⟩ := chkLv_ok hck
    obtain ⟨k, hkm⟩ : ∃ k : Nat, lv % (sl.length : Int) = (k : Int) := ⟨(lv % (sl.length : Int)).toNat, by have := Int.emod_nonneg lv (b := (sl.length : Int)) (by omega); omega⟩
    have hkl : k < sl.length := by have := Int.emod_lt_of_pos lv (b := (sl.length : Int)) (by omega); omega
    obtain ⟨x, hxk⟩ : ∃ x, sl[k]? = some x := ⟨_, List.getElem?_eq_getElem hkl⟩
    have hk1 : 1 + (k : Int) = (k : Int) + 1 := by omega
    obtain ⟨_, _, hct⟩ := hall k x hxk
    have hF := fun Hx (hl : HLe H Hx) a n c (h : HRow Hx a n c 4 (sl.map lvrow)) (hn : n < 68719476736) (ms : List Int) a2 c2 (h2 : HRow Hx a2 9 c2 1 (ms.map irow)) => Fill_fn (hE.mono hl) h hn htp ((k : Int) + 1) h2 (by omega)
    have hI := fun Hx (hl : HLe H Hx) a n c (h : HRow Hx a n c 4 (sl.map lvrow)) (hn : n < 68719476736) (s : List UInt8) (hs : s.length < 1099511627776) => Fits_fn (hE.mono hl) h hn htp ((k : Int) + 1) hs
    unfold fillV at hF
    unfold fitsV at hI
    refine Fn_of _ _ Tryz.func7 rfl Tryz.ntmps7 rfl fun c => ?_
    repeat' (first | (refine O_ef rfl (Ef_boxa WideF.wide (cs := ns.map (Value.int .u32)) rfl rfl ?_); intro b5; refine O_freezeBox hone ?_; intro H2 hle2 hb5) | (refine O_ef rfl (Ef_call (I := []) WideF.wide (hs _ hle2) ⟨rfl, trivial⟩ rfl ?_); rintro v H3 I3 hle3 ⟨a3, n3, c3, rfl, r3, rfl⟩); obtain rfl : n3 = sl.length := (by have := r3.n_eq; omega) | (refine O_ef rfl (Ef_call (I := []) WideF.wide (hk _ (hle2.trans hle3)) trivial rfl ?_); rintro v H4 I4 hle4 ⟨rfl, rfl⟩) | (refine O_ef rfl (Ef_call (I := []) WideF.wide (hC _ _ _ _ (r3.mono hle4) (by omega)) ⟨rfl, trivial⟩ rfl ?_); rintro v H5 I5 hle5 ⟨rfl, rfl⟩); have g5 := ((hle2.trans hle3).trans hle4).trans hle5; have r3 := r3.mono (hle4.trans hle5); have hb5 := hb5.mono (hle3.trans (hle4.trans hle5)); clear hle2 hle3 hle4 hle5 | (refine O_ev WideF.wide rfl (Ev_conv (k2 := .i64) rfl (wi64 (by omega))) rfl rfl ?_) | (refine O_ev WideF.wide rfl (Ev_remp rfl rfl (by omega) (by omega)) rfl rfl ?_; rw [hkm]) | (refine O_ev WideF.wide rfl (Ev_add rfl rfl (wi64 (by omega))) rfl rfl ?_; rw [hk1]) | refine O_nil ?_ | refine A_seq ?_ | refine A_region ?_ | refine A_skip ?_ | refine A_block ?_ | (show opsA _ _ _ _ _ _ _; first | refine O_ev WideF.wide rfl (Ev_pure rfl) rfl rfl ?_ | (show opsA _ _ _ _ (⟨_, .call _, _, _, _, _⟩ :: _) _ _; refine O_ev WideF.wide rfl (Ev_llen rfl) rfl rfl ?_) | (show opsA _ _ _ _ (⟨_, .unOp _ _ _, _, _, _, _⟩ :: _) _ _; refine O_ev WideF.wide rfl (Ev_notb rfl) rfl rfl ?_)) | (show wpA _ _ _ (.cond _ _ _) _ _ _ _; (refine A_if rfl (fun h => ?_) (fun h => ?_) <;> try (exfalso; omega))))
    all_goals try (exfalso; omega)
    all_goals try (exfalso; exact absurd trivial (by assumption))
    refine A_nilrow 1 ?_
    refine A_loopu (fun m st => ∃ (i : Nat) (a' : Option Addr) (c' : Nat) (acc : List Int), m = 9 - i ∧ i ≤ 9 ∧ acc.length = i ∧ acc = (ns.take i).map (· % 1000000) ∧ st = ⟨84, [(0, .slice a3 sl.length c3), (5, .pointer (some ⟨b5, 0, none⟩)), (7, .int .i64 ((k : Int) + 1)), (8, .slice a' acc.length c'), (9, .int .i64 (i : Int))], H5, [.row (.slice a' acc.length c') 1 (acc.map irow)], [], []⟩) ?_ ?_
    · exact Shift.to ⟨_, 0, none, 0, [], rfl, by omega, rfl, by simp, rfl⟩ ⟨rfl, rfl, rfl, ⟨rfl, rfl, rfl, rfl, rfl, trivial⟩, Own.subi [0] (by decide) rfl rfl⟩
    · rintro m st ⟨i, a', c', acc, rfl, hi, hal, hacc, rfl⟩
      by_cases hlt : i < 9
      · obtain ⟨x, hxi⟩ : ∃ x, ns[i]? = some x := ⟨_, List.getElem?_eq_getElem (by omega)⟩
        have hcx : H5 b5 (0 + (i : Int).toNat * 1) = some (.int .u32 x) := by
          have := hb5 i (.int .u32 x) (by rw [List.getElem?_map, hxi]; rfl)
          simpa using this
        have hxb := hnb x (List.mem_of_getElem? hxi)
        have htm : x.tmod 1000000 = x % 1000000 := Int.tmod_eq_emod_of_nonneg hxb.1
        have hnx : acc ++ [x % 1000000] = (ns.take (i + 1)).map (· % 1000000) := by rw [take_get hxi, List.map_append, hacc]; rfl
        repeat' (first | (refine O_ev WideF.wide rfl (Ev_indexArr rfl rfl (by omega) (by omega)) rfl rfl ?_) | (refine O_ev WideF.wide rfl (Ev_loadH1 rfl hcx) rfl rfl ?_) | (refine O_ev WideF.wide rfl (Ev_rem rfl rfl (by decide)) rfl rfl ?_; rw [htm]) | (refine O_ev WideF.wide rfl (Ev_conv (k2 := .i64) rfl (wi64 (by omega))) rfl rfl ?_) | refine O_nil ?_ | refine A_seq ?_ | refine A_region ?_ | refine A_skip ?_ | refine A_block ?_ | (show opsA _ _ _ _ _ _ _; first | refine O_ev WideF.wide rfl (Ev_pure rfl) rfl rfl ?_ | (show opsA _ _ _ _ (⟨_, .call _, _, _, _, _⟩ :: _) _ _; (refine O_f1 (O_ef rfl (Ef_appendR WideF.wide rfl rfl rfl rfl rfl (by simp; omega) (by simp; omega) rfl ?_)); intro a cp)) | (show opsA _ _ _ _ (⟨_, .buildSlice _ _ _, _, _, _, _⟩ :: _) _ _; (refine O_ef rfl (Ef_build11 WideF.wide rfl rfl rfl ?_); intro b)) | (show opsA _ _ _ _ (⟨_, .binOp _ _ _ _ _, _, _, _, _⟩ :: _) _ _; refine O_ev WideF.wide rfl (Ev_add rfl rfl (wi64 (by omega))) rfl rfl ?_)) | (show wpA _ _ _ (.cond _ _ _) _ _ _ _; (refine A_if rfl (fun h => ?_) (fun h => ?_) <;> try (exfalso; omega))))
        all_goals try (exfalso; omega)
        rw [isnoc_row, List.length_map]
        refine Shift.to ⟨_, ?_, i + 1, _, _, acc ++ [x % 1000000], rfl, by omega, by rw [List.length_append]; simp; omega, hnx, rfl⟩ ⟨rfl, rfl, rfl, ⟨rfl, rfl, rfl, rfl, rfl, trivial⟩, Own.subi [0] (by decide) rfl rfl⟩
        omega
      · rw [List.take_of_length_le (by omega)] at hacc
        have hab : ∀ y ∈ acc, 0 ≤ y ∧ y ≤ 999999 := by
          intro y hy
          rw [hacc] at hy
          obtain ⟨z, _, rfl⟩ := List.mem_map.1 hy
          show 0 ≤ z % 1000000 ∧ z % 1000000 ≤ 999999
          omega
        have hal9 : acc.length = 9 := by omega
        clear hacc
        have hfe := fillE_ok hck hxk (ns := acc) (by omega)
        have h200 := fillS_200 hct (fmts sl) acc
        have hfi := fitsE_fill hck hxk hal9 hab (by omega)
        have hfl := fitsE_long hck hkl (s := List.replicate 257 0) (by simp)
        generalize fillS (fmts sl) (tplE x.tpl).1 acc = t at *
        rw [hal9]
        have hF1 := fun Hx hl a n c h hn a2 c2 h2 => hF Hx hl a n c h hn acc a2 c2 h2
        rw [hfe] at hF1
        dsimp only at hF1
        have hI1 := fun Hx hl a n c h hn => hI Hx hl a n c h hn t (by omega)
        rw [hfi] at hI1
        have hI2 := fun Hx hl a n c h hn => hI Hx hl a n c h hn (List.replicate 257 0) (by simp)
        rw [hfl] at hI2
        dsimp only at hI1 hI2
        by_cases h40 : 40 < t.length
        · repeat' (first | (refine O_freeze (irow_one _) ?_; intro H6 hle6 r6; refine O_ef rfl (Ef_call (I := []) WideF.wide (hF1 _ (g5.trans hle6) _ _ _ (r3.mono hle6) (by omega) _ _ r6) ⟨rfl, rfl, rfl, trivial⟩ rfl ?_); rintro v H7 I7 hle7 ⟨rfl, rfl⟩) | refine O_nil ?_ | refine A_seq ?_ | refine A_region ?_ | refine A_ret ?_ | (show opsA _ _ _ _ _ _ _; first | (refine O_split rfl rfl (fun h => ?_) (fun h => ?_) <;> try (exfalso; omega)) | refine O_ev WideF.wide rfl (Ev_pure rfl) rfl rfl ?_ | (show opsA _ _ _ _ (⟨_, .call _, _, _, _, _⟩ :: _) _ _; refine O_ev WideF.wide rfl (Ev_slen rfl) rfl rfl ?_)) | (show wpA _ _ _ (.exit _) _ _ _ _; refine A_exit rfl ?_) | (show wpA _ _ _ (.cond _ _ _) _ _ _ _; (refine A_if rfl (fun h => ?_) (fun h => ?_) <;> try (exfalso; omega))))
          all_goals first
            | (exfalso; omega)
            | exact End_e (Ret1 rfl rfl) ⟨rfl, rfl⟩
            | (exfalso; exact absurd trivial (by assumption))
        · repeat' (first | (refine O_freeze (irow_one _) ?_; intro H6 hle6 r6; refine O_ef rfl (Ef_call (I := []) WideF.wide (hF1 _ (g5.trans hle6) _ _ _ (r3.mono hle6) (by omega) _ _ r6) ⟨rfl, rfl, rfl, trivial⟩ rfl ?_); rintro v H7 I7 hle7 ⟨rfl, rfl⟩; have r7 := r3.mono (hle6.trans hle7); have g7 := g5.trans (hle6.trans hle7); clear r6 hle6 hle7) | (refine O_ef rfl (Ef_call (I := []) WideF.wide (hI1 _ g7 _ _ _ r7 (by omega)) ⟨rfl, rfl, rfl, trivial⟩ rfl ?_); rintro v H8 I8 hle8 ⟨rfl, rfl⟩); have r8 := r7.mono hle8; have g8 := g7.trans hle8; clear r7 g7 hle8 | (refine O_ef rfl (Ef_make1 (m := 257) WideF.wide rfl rfl (by decide) (by decide) rfl ?_); intro bm) | (refine O_ev WideF.wide rfl (Ev_convR (l := List.replicate 257 0) rfl (i := 0) rfl rfl) rfl rfl ?_) | (refine O_ef rfl (Ef_call (I := []) WideF.wide (hI2 _ g8 _ _ _ r8 (by omega)) ⟨rfl, rfl, rfl, trivial⟩ rfl ?_); rintro v H9 I9 hle9 ⟨rfl, rfl⟩) | refine O_nil ?_ | refine A_seq ?_ | refine A_region ?_ | refine A_skip ?_ | refine A_ret ?_ | (show opsA _ _ _ _ _ _ _; first | (refine O_split rfl rfl (fun h => ?_) (fun h => ?_) <;> try (exfalso; omega)) | refine O_ev WideF.wide rfl (Ev_pure rfl) rfl rfl ?_ | (show opsA _ _ _ _ (⟨_, .call _, _, _, _, _⟩ :: _) _ _; refine O_ev WideF.wide rfl (Ev_slen rfl) rfl rfl ?_)) | (show wpA _ _ _ (.exit _) _ _ _ _; refine A_exit rfl ?_) | (show wpA _ _ _ (.cond _ _ _) _ _ _ _; (refine A_if rfl (fun h => ?_) (fun h => ?_) <;> try (exfalso; omega))))
          all_goals first
            | (exfalso; omega)
            | exact End_e (Ret1 rfl rfl) ⟨rfl, rfl⟩
            | (exfalso; exact absurd trivial (by assumption))
            | trace_state
  · generalize chkLv sl = e at *
    refine Fn_of _ _ Tryz.func7 rfl Tryz.ntmps7 rfl fun c => ?_
    repeat' (first | (refine O_ef rfl (Ef_boxa WideF.wide (cs := ns.map (Value.int .u32)) rfl rfl ?_); intro b5; refine O_freezeBox hone ?_; intro H2 hle2 hb5) | (refine O_ef rfl (Ef_call (I := []) WideF.wide (hs _ hle2) ⟨rfl, trivial⟩ rfl ?_); rintro v H3 I3 hle3 ⟨a3, n3, c3, rfl, r3, rfl⟩); have hn3 := r3.n_eq | (refine O_ef rfl (Ef_call (I := []) WideF.wide (hk _ (by first | exact hle2.trans hle3 | exact ((hle2.trans hle3).trans hle4).trans hle5)) trivial rfl ?_); rintro v H4 I4 hle4 ⟨rfl, rfl⟩) | (refine O_ef rfl (Ef_call (I := []) WideF.wide (hC _ _ _ _ (r3.mono hle4) (by omega)) ⟨rfl, trivial⟩ rfl ?_); rintro v H5 I5 hle5 ⟨rfl, rfl⟩) | refine O_nil ?_ | refine A_seq ?_ | refine A_region ?_ | refine A_ret ?_ | (show opsA _ _ _ _ _ _ _; first | refine O_ev WideF.wide rfl (Ev_pure rfl) rfl rfl ?_ | (show opsA _ _ _ _ (⟨_, .unOp _ _ _, _, _, _, _⟩ :: _) _ _; refine O_ev WideF.wide rfl (Ev_notb rfl) rfl rfl ?_)) | (show wpA _ _ _ (.cond _ _ _) _ _ _ _; (refine A_if rfl (fun h => ?_) (fun h => ?_) <;> try (exfalso; omega))))
    all_goals first
      | exact End_e (Ret1 rfl rfl) ⟨rfl, rfl⟩
      | (exfalso; omega)
      | (exfalso; exact absurd trivial (by assumption))
end Go.Proofs.YtaneeaojlkenmaaGreatDoor
