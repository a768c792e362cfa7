/-
  The law's example, known.
-/
import Derived.Test.YtaneeaojlkenmaaGreatDoorL19
namespace Go.Proofs.YtaneeaojlkenmaaGreatDoor
open Go Go.Lib
set_option linter.unusedVariables false
set_option linter.unusedSimpArgs false
theorem valid_ascii : ∀ l : List UInt8, (∀ b ∈ l, b.toNat < 128) → valid l
  | [], _ => valid_nil
  | c :: r, h => by
    have hc := h c (by simp)
    have hb : bat (c :: r) 0 = (c.toNat : Int) := rfl
    have ht : tailSize (bat (c :: r) 0) = 1 := by rw [hb]; exact tailSize_lt (by omega)
    have he : enc (c :: r) 0 = 1 := by unfold enc; rw [ht, hb]; simp; omega
    rw [valid_step (by simp) (by rw [he]; decide), he]
    exact valid_ascii r fun b hb => h b (List.mem_cons_of_mem _ hb)
instance (p : Pt) : Decidable (PartOk p) := inferInstanceAs (Decidable (_ ∨ _))
def t1S : List UInt8 := [37, 49, 46]
def t2S : List UInt8 := [37, 49, 45, 37, 50]
def t3S : List UInt8 := [37, 49, 46, 37, 100, 50, 41]
def p2L : List Pt := [⟨[], 1, false⟩, ⟨[45], 0, false⟩, ⟨[], 2, false⟩]
theorem tpl_of {s : List UInt8} {l : List Pt} (h1 : s.length ≤ 64) (h2 : ∀ b ∈ s, b.toNat < 128) (h3 : ¬ control s) (h4 : scnS s [] [] = some l) (h5 : places l ≤ 9) : tplE s = (l, 0) := by
  rw [tplE_def, if_neg (by omega), if_neg (fun h => h (valid_ascii s h2)), if_neg h3, h4]
  exact if_neg (by omega)
theorem tpl1 : tplE t1S = ([⟨[], 1, false⟩, ⟨[46], 0, false⟩], 0) := tpl_of (by decide) (by decide) (by decide) (by decide) (by decide)
theorem tpl2 : tplE t2S = (p2L, 0) := tpl_of (by decide) (by decide) (by decide) (by decide) (by decide)
theorem tpl3 : tplE t3S = ([⟨[], 1, false⟩, ⟨[46], 0, false⟩, ⟨[], 2, true⟩, ⟨[41], 0, false⟩], 0) := tpl_of (by decide) (by decide) (by decide) (by decide) (by decide)
def exL : List Lv := [⟨5, 1, t1S, 0⟩, ⟨2, 1, t2S, 1⟩]
theorem chk1 : chkT t1S 1 = 0 := by unfold chkT; rw [tpl1]; decide
theorem chk2 : chkT t2S 2 = 0 := by unfold chkT; rw [tpl2]; decide
theorem chk_ex : chkLv exL = 0 := by
  unfold chkLv
  rw [if_neg (by decide), if_neg (by decide)]
  show chkGo 0 [⟨5, 1, t1S, 0⟩, ⟨2, 1, t2S, 1⟩] = 0
  rw [chkGo_cons]
  have e1 : chkT t1S (((0 : Nat) : Int) + 1) = 0 := chk1
  rw [if_neg (by decide), if_neg (by decide), if_neg (by simp only [e1]; decide), if_neg (by decide), chkGo_cons]
  have e2 : chkT t2S (((0 + 1 : Nat) : Int) + 1) = 0 := chk2
  rw [if_neg (by decide), if_neg (by decide), if_neg (by simp only [e2]; decide), if_neg (by decide)]
  rfl
theorem lv_ex : lvE exL 2 = 0 := by
  unfold lvE
  rw [chk_ex, if_neg (by decide), if_neg (by decide)]
theorem ltr28 : ltr 28 = [97, 98] := by
  rw [show (28 : Nat) = 27 + 1 from rfl, ltr_succ, show 27 / 26 = 0 + 1 from rfl, ltr_succ, show 0 / 26 = 0 from rfl, ltr_zero]
  decide
theorem dec4000 : decDigits 4000 = [52, 48, 48, 48] := by
  rw [dec_big (by decide), show 4000 / 10 = 400 from rfl, dec_big (by decide), show 400 / 10 = 40 from rfl, dec_big (by decide), show 40 / 10 = 4 from rfl, dec_small (by decide)]
  decide
theorem d1 : digT 5 4 false = [73, 86] := by
  have e : fmtE 5 4 = ([73, 86], 0) := by decide +kernel
  unfold digT; rw [e]; rfl
theorem d2 : digT 2 28 false = [97, 98] := by
  have e : fmtE 2 28 = ([97, 98], 0) := by
    refine fmtE_ok.2 ⟨by decide, ?_⟩
    show [97, 98] = ltr 28
    rw [ltr28]
  unfold digT; rw [e]; rfl
theorem d3 : digT 5 4000 false = [52, 48, 48, 48] := by
  have e : fmtE 5 4000 = ([], 2) := by decide +kernel
  unfold digT; rw [e, if_neg (by decide), fmt1 (by decide), if_pos rfl]
  exact dec4000
theorem d4 : digT 2 0 false = [48] := by
  have e : fmtE 2 0 = ([], 2) := by decide +kernel
  unfold digT; rw [e, if_neg (by decide), fmt1 (by decide), if_pos rfl]
  show decDigits 0 = [48]
  rw [dec_small (by decide)]; rfl
theorem fillS_p2 (ns : List Int) : fillS (fmts exL) p2L ns = digT 5 (ns.getD 0 0) false ++ [45] ++ digT 2 (ns.getD 1 0) false := by
  unfold fillS p2L
  simp only [List.flatMap_cons, List.flatMap_nil]
  simp [fmtOf, fmts, exL]
theorem fill_a : fillE exL 2 [4, 28] = ([73, 86, 45, 97, 98], 0) := by
  unfold fillE
  rw [lv_ex, if_neg (by decide), if_neg (by decide)]
  show (fillS (fmts exL) (tplE t2S).1 [4, 28], (0 : Int)) = _
  rw [tpl2, fillS_p2]
  show (digT 5 4 false ++ [45] ++ digT 2 28 false, (0 : Int)) = _
  rw [d1, d2]; rfl
theorem fill_b : fillE exL 2 [4000, 0] = ([52, 48, 48, 48, 45, 48], 0) := by
  unfold fillE
  rw [lv_ex, if_neg (by decide), if_neg (by decide)]
  show (fillS (fmts exL) (tplE t2S).1 [4000, 0], (0 : Int)) = _
  rw [tpl2, fillS_p2]
  show (digT 5 4000 false ++ [45] ++ digT 2 0 false, (0 : Int)) = _
  rw [d3, d4]; rfl
theorem fits_a : fitsE exL 2 [73, 86, 45, 97, 98] = (true, 0) := by
  unfold fitsE
  rw [lv_ex, if_neg (by decide), if_neg (by decide)]
  show (mtP (fmts exL) (tplE t2S).1 [73, 86, 45, 97, 98] (List.replicate 10 (-2)), (0 : Int)) = _
  rw [tpl2]
  have h := fit_fill (fmts exL) p2L (List.replicate 10 (-2)) [4, 28] (by decide) ⟨rfl, fun j hj => by
    match j, hj with
    | 0, _ | 1, _ | 2, _ | 3, _ | 4, _ | 5, _ | 6, _ | 7, _ | 8, _ => exact ⟨by decide, by decide, .inl rfl⟩⟩
  rw [fillS_p2] at h
  have e : digT 5 (([4, 28] : List Int).getD 0 0) false ++ [45] ++ digT 2 (([4, 28] : List Int).getD 1 0) false = [73, 86, 45, 97, 98] := by
    show digT 5 4 false ++ [45] ++ digT 2 28 false = _
    rw [d1, d2]; rfl
  rw [e] at h
  rw [show (p2L, (0 : Int)).1 = p2L from rfl, h]
theorem fits_b : fitsE exL 2 [73, 73, 73, 73, 45, 97, 98] = (false, 0) := by
  unfold fitsE
  rw [lv_ex, if_neg (by decide), if_neg (by decide)]
  show (mtP (fmts exL) (tplE t2S).1 [73, 73, 73, 73, 45, 97, 98] (List.replicate 10 (-2)), (0 : Int)) = _
  rw [tpl2]
  show (mtP (fmts exL) (⟨[], 1, false⟩ :: [⟨[45], 0, false⟩, ⟨[], 2, false⟩]) [73, 73, 73, 73, 45, 97, 98] (List.replicate 10 (-2)), (0 : Int)) = _
  rw [mtP_place (by decide)]
  rw [show (List.range (min ([73, 73, 73, 73, 45, 97, 98] : List UInt8).length 16)) = List.range 7 from rfl]
  have hlit : ∀ (s : List UInt8) (N : List Int), ([45] : List UInt8).isPrefixOf s = false → mtP (fmts exL) [⟨[45], 0, false⟩, ⟨[], 2, false⟩] s N = false := fun s N h => by
    rw [mtP, if_pos rfl, h, Bool.false_and]
  have htry : ∀ j, j < 7 → tryJ (fmts exL) ⟨[], 1, false⟩ [⟨[45], 0, false⟩, ⟨[], 2, false⟩] [73, 73, 73, 73, 45, 97, 98] (List.replicate 10 (-2)) j = false := fun j hj => by
    unfold tryJ
    by_cases h3 : j = 3
    · subst h3
      rw [List.any_eq_false]
      intro n hn
      exfalso
      have hn : n ∈ candP 5 false [73, 73, 73, 73] (-2) := hn
      rcases (mem_candP_neg (by decide) (by decide)).1 hn with ⟨_, h⟩ | ⟨h, _⟩
      · obtain ⟨_, _, h5⟩ := prs_iff.1 h
        have h6 := value_fmt (by decide) h5
        have h7 : valueS 5 [73, 73, 73, 73] = 4 := by decide
        rw [h7] at h6
        subst h6
        have h8 : fmtE 5 4 = ([73, 86], 0) := by decide +kernel
        rw [h8] at h5
        exact absurd (congrArg Prod.fst h5) (by decide)
      · obtain ⟨_, _, h5⟩ := prs1_of h
        have := dec_bytes n.toNat 73 (by rw [← h5]; simp)
        exact absurd this.2 (by decide)
    · rw [List.any_eq_false]
      intro n _
      rw [hlit]
      · simp
      · match j, hj, h3 with
        | 0, _, _ | 1, _, _ | 2, _, _ | 4, _, _ | 5, _, _ | 6, _, _ => rfl
        | 3, _, h => exact absurd rfl h
  rw [any_range_false htry]
attribute [local irreducible] wpA opsA drJ drQ drE Ef Ev Shift Fn
set_option maxRecDepth 100000 in
theorem example_fn {H : Hp} : Fn Tryz.prog 41 [] H [] fun v H' I => ∃ a c, v = .slice a 2 c ∧ HRow H' a 2 c 4 (exL.map lvrow) ∧ I = [] := by
  refine Fn_of _ _ Tryz.func41 rfl Tryz.ntmps41 rfl fun c => ?_
  repeat' (first | (refine O_ef rfl (Ef_buildn WideF.wide (k := 4) (xs := [_, _]) (vs := [_, _]) rfl ⟨rfl, rfl, trivial⟩ rfl rfl rfl rfl rfl rfl ?_); intro bb) | refine O_nil ?_ | refine A_seq ?_ | refine A_region ?_ | refine A_ret ?_ | (show opsA _ _ _ _ _ _ _; first | refine O_ev WideF.wide rfl (Ev_pure rfl) rfl rfl ?_ | (show opsA _ _ _ _ (⟨_, .build _ _, _, _, _, _⟩ :: _) _ _; first | refine O_ev WideF.wide rfl (Ev_build (vs := [(_, _), (_, _), (_, _)]) ⟨rfl, rfl, rfl, rfl, rfl, rfl, trivial⟩ rfl) rfl rfl ?_ | refine O_ev WideF.wide rfl (Ev_build (vs := [(_, _), (_, _), (_, _), (_, _)]) ⟨rfl, rfl, rfl, rfl, rfl, rfl, rfl, rfl, trivial⟩ rfl) rfl rfl ?_)))
  exact End_row (Ret1 rfl rfl) (lvrow_one exL) fun H' hle hr => ⟨_, _, rfl, hr, rfl⟩
theorem ex_len : ∀ x ∈ exL, x.tpl.length < 1099511627776 := by
  intro x hx
  simp only [exL, List.mem_cons, List.not_mem_nil, or_false] at hx
  rcases hx with rfl | rfl <;> decide
set_option maxRecDepth 100000 in
set_option maxHeartbeats 4000000 in
theorem known_fn {H : Hp} (hE : EnvH H) : Fn Tryz.prog 16 [] H [] fun v _ I => v = .bool true ∧ I = [] := by
  have hex := fun Hx => example_fn (H := Hx)
  have hfa := fun Hx (hle : HLe H Hx) a c (hr : HRow Hx a 2 c 4 (exL.map lvrow)) b (h2 : HRow Hx (some ⟨b, 0, none⟩) 2 2 1 ([4, 28].map irow)) => Fill_fn (hE.mono hle) hr (by decide) ex_len 2 h2 (by decide)
  have hfb := fun Hx (hle : HLe H Hx) a c (hr : HRow Hx a 2 c 4 (exL.map lvrow)) b (h2 : HRow Hx (some ⟨b, 0, none⟩) 2 2 1 ([4000, 0].map irow)) => Fill_fn (hE.mono hle) hr (by decide) ex_len 2 h2 (by decide)
  have hia := fun Hx (hle : HLe H Hx) a c (hr : HRow Hx a 2 c 4 (exL.map lvrow)) => Fits_fn (hE.mono hle) hr (by decide) ex_len 2 (lab := [73, 86, 45, 97, 98]) (by decide)
  have hib := fun Hx (hle : HLe H Hx) a c (hr : HRow Hx a 2 c 4 (exL.map lvrow)) => Fits_fn (hE.mono hle) hr (by decide) ex_len 2 (lab := [73, 73, 73, 73, 45, 97, 98]) (by decide)
  have hp := fun Hx => lParse_fn (H := Hx) (s := t3S) (by decide)
  unfold fillV at hfa hfb
  unfold fitsV at hia hib
  unfold ParseH at hp
  rw [fill_a] at hfa
  rw [fill_b] at hfb
  rw [fits_a] at hia
  rw [fits_b] at hib
  rw [tpl3] at hp
  dsimp only at hfa hfb hia hib hp
  refine Fn_of _ _ Tryz.func16 rfl Tryz.ntmps16 rfl fun c => ?_
  repeat' (first | (refine O_ef rfl (Ef_call (I := []) WideF.wide (hex _) trivial rfl ?_); rintro v H1 I1 hle1 ⟨a1, c1, rfl, r1, rfl⟩) | (refine O_ef rfl (Ef_buildn WideF.wide (k := 1) (xs := [_, _]) (vs := [_, _]) rfl ⟨rfl, rfl, trivial⟩ rfl rfl rfl rfl rfl rfl ?_); intro bb) | (refine O_freeze (css := [irow 4, irow 28]) (irow_one [4, 28]) ?_; intro H2 hle2 r2; refine O_ef rfl (Ef_call (I := []) WideF.wide (hfa _ (hle1.trans hle2) _ _ (r1.mono hle2) _ r2) ⟨rfl, rfl, rfl, trivial⟩ rfl ?_); rintro v H3 I3 hle3 ⟨rfl, rfl⟩; have g3 := (hle1.trans hle2).trans hle3; clear hle1 hle2 hle3 r1 r2) | refine O_nil ?_ | refine A_seq ?_ | refine A_region ?_ | (show opsA _ _ _ _ _ _ _; refine O_ev WideF.wide rfl (Ev_pure rfl) rfl rfl ?_))
  repeat' (first | (refine O_freeze (css := [irow 4000, irow 0]) (irow_one [4000, 0]) ?_; intro H2 hle2 r2; refine O_ef rfl (Ef_call (I := []) WideF.wide (hfb _ ((g3.trans hle1).trans hle2) _ _ (r1.mono hle2) _ r2) ⟨rfl, rfl, rfl, trivial⟩ rfl ?_); rintro v H3 I3 hle3 ⟨rfl, rfl⟩; have g6 := ((g3.trans hle1).trans hle2).trans hle3; clear hle1 hle2 hle3 r1 r2) | refine O_nil ?_ | refine A_seq ?_ | refine A_region ?_ | (show opsA _ _ _ _ _ _ _; refine O_ev WideF.wide rfl (Ev_pure rfl) rfl rfl ?_))
  repeat' (first | (refine O_ef rfl (Ef_call (I := []) WideF.wide (hex _) trivial rfl ?_); rintro v H4 I4 hle4 ⟨a4, c4, rfl, r4, rfl⟩; refine O_ef rfl (Ef_call (I := []) WideF.wide (hia _ (g6.trans hle4) _ _ r4) ⟨rfl, rfl, rfl, trivial⟩ rfl ?_); rintro v H5 I5 hle5 ⟨rfl, rfl⟩; have g7 := (g6.trans hle4).trans hle5; clear hle4 hle5 r4) | refine O_nil ?_ | refine A_seq ?_ | refine A_region ?_ | (show opsA _ _ _ _ _ _ _; refine O_ev WideF.wide rfl (Ev_pure rfl) rfl rfl ?_))
  repeat' (first | (refine O_ef rfl (Ef_call (I := []) WideF.wide (hex _) trivial rfl ?_); rintro v H4 I4 hle4 ⟨a4, c4, rfl, r4, rfl⟩; refine O_ef rfl (Ef_call (I := []) WideF.wide (hib _ (g7.trans hle4) _ _ r4) ⟨rfl, rfl, rfl, trivial⟩ rfl ?_); rintro v H6 I6 hle6 ⟨rfl, rfl⟩) | (refine O_ef rfl (Ef_call (I := []) WideF.wide (hp _) ⟨rfl, trivial⟩ rfl ?_); rintro v H8 I8 hle8 ⟨a8, n8, c8, rfl, r8, rfl⟩); obtain rfl : n8 = 4 := (by have := r8.len; simpa using this.symm); obtain ⟨b9, o9, y, rfl, hy, hc9⟩ := r8.atm 2 (by decide); cases hy; unfold prow at hc9; dsimp only at hc9 | (refine O_ev WideF.wide rfl (Ev_loadH1 rfl (hc9 1 _ rfl)) rfl rfl ?_) | (refine O_ev WideF.wide rfl (Ev_loadH1 rfl (hc9 2 _ rfl)) rfl rfl ?_) | (refine O_ev WideF.wide rfl (Ev_seqs rfl rfl) rfl rfl ?_) | (refine O_ev WideF.wide rfl (Ev_eqis rfl rfl) rfl rfl ?_) | refine O_nil ?_ | refine A_seq ?_ | refine A_region ?_ | refine A_ret ?_ | (show opsA _ _ _ _ _ _ _; first | refine O_ev WideF.wide rfl (Ev_pure rfl) rfl rfl ?_ | (show opsA _ _ _ _ (⟨_, .indexAddr _ _ _, _, _, _, _⟩ :: _) _ _; refine O_ev WideF.wide rfl (Ev_indexAddr rfl rfl (by omega) (by omega)) rfl rfl ?_) | (show opsA _ _ _ _ (⟨_, .fieldAddr _ _ _, _, _, _, _⟩ :: _) _ _; refine O_ev WideF.wide rfl (Ev_fieldAddr rfl rfl rfl) rfl rfl ?_) | (show opsA _ _ _ _ (⟨_, .call _, _, _, _, _⟩ :: _) _ _; refine O_ev WideF.wide rfl (Ev_llen rfl) rfl rfl ?_) | (show opsA _ _ _ _ (⟨_, .unOp _ _ _, _, _, _, _⟩ :: _) _ _; refine O_ev WideF.wide rfl (Ev_notb rfl) rfl rfl ?_)))
  all_goals first
    | exact End_e (Ret1 rfl rfl) ⟨rfl, rfl⟩
    | (exfalso; exact absurd trivial (by assumption))
    | (exfalso; exact absurd rfl (by assumption))
end Go.Proofs.YtaneeaojlkenmaaGreatDoor
