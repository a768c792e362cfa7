/-
  The numbers that a string can denote: program and reference.
-/
import Derived.Test.YtaneeaojlkenmaaGreatDoorL14
namespace Go.Proofs.YtaneeaojlkenmaaGreatDoor
open Go
set_option linter.unusedVariables false
set_option linter.unusedSimpArgs false
attribute [local irreducible] wpA opsA drJ drQ drE Ef Ev Shift Fn
set_option maxRecDepth 100000 in
theorem IndexI_fn {H : Hp} {a : Option Addr} {n cq : Nat} {l : List Int} {x : Int} (hx : HRow H a n cq 1 (l.map irow)) (hm : n < 68719476736) : Fn Tryz.prog 118 [.slice a n cq, .int .i64 x] H [] fun v H' I' => (∃ r : Int, v = .int .i64 r ∧ (0 ≤ r ↔ x ∈ l)) ∧ H' = H ∧ I' = [] := by
  have e1 : l.length = n := by have := hx.len; simpa using this
  refine Fn_of _ _ Tryz.func118 rfl Tryz.ntmps118 rfl fun c => ?_
  repeat' (first | refine O_nil ?_ | refine A_seq ?_ | refine A_region ?_ | refine A_block ?_ | (show opsA _ _ _ _ _ _ _; first | refine O_ev WideF.wide rfl (Ev_pure rfl) rfl rfl ?_ | (show opsA _ _ _ _ (⟨_, .call _, _, _, _, _⟩ :: _) _ _; refine O_ev WideF.wide rfl (Ev_llen rfl) rfl rfl ?_)))
  refine A_loopu (fun m s => ∃ i : Nat, m = n - i ∧ i ≤ n ∧ (x ∈ l ↔ x ∈ l.drop i) ∧ s = ⟨19, [(0, .slice a n cq), (1, .int .i64 x), (7, .int .i64 n), (8, .int .i64 i)], H, [], [], []⟩) ?_ ?_
  · exact Shift.to ⟨_, 0, rfl, by omega, by rw [List.drop_zero], rfl⟩ ⟨rfl, rfl, rfl, ⟨rfl, rfl, rfl, rfl, trivial⟩, Own.sub_nil _⟩
  · rintro m s ⟨i, rfl, hi, hall, rfl⟩
    by_cases hlt : i < n
    · obtain ⟨b, o, y, rfl, hyi, hc⟩ := hx.atm i hlt
      rw [drop_get hyi, List.mem_cons] at hall
      unfold irow at hc
      by_cases hyy : x = y
      · repeat' (first | (refine O_ev WideF.wide rfl (Ev_loadH1 rfl (hc 0 _ rfl)) rfl rfl ?_) | refine O_nil ?_ | refine A_seq ?_ | refine A_region ?_ | refine A_skip ?_ | refine A_ret ?_ | refine A_block ?_ | (show opsA _ _ _ _ _ _ _; first | refine O_ev WideF.wide rfl (Ev_pure rfl) rfl rfl ?_ | (show opsA _ _ _ _ (⟨_, .indexAddr _ _ _, _, _, _, _⟩ :: _) _ _; refine O_ev WideF.wide rfl (Ev_indexAddr rfl rfl (by omega) (by omega)) rfl rfl ?_)) | (show wpA _ _ _ (.cond _ _ _) _ _ _ _; (refine A_if rfl (fun h => ?_) (fun h => ?_) <;> try (exfalso; omega))))
        all_goals first
          | (exfalso; omega)
          | exact End_e (Ret1 rfl rfl) ⟨⟨_, rfl, ⟨fun _ => hall.2 (.inl hyy), fun _ => by omega⟩⟩, rfl, rfl⟩
      · repeat' (first | (refine O_ev WideF.wide rfl (Ev_loadH1 rfl (hc 0 _ rfl)) rfl rfl ?_) | refine O_nil ?_ | refine A_seq ?_ | refine A_region ?_ | refine A_skip ?_ | refine A_block ?_ | (show opsA _ _ _ _ _ _ _; first | refine O_ev WideF.wide rfl (Ev_pure rfl) rfl rfl ?_ | (show opsA _ _ _ _ (⟨_, .indexAddr _ _ _, _, _, _, _⟩ :: _) _ _; refine O_ev WideF.wide rfl (Ev_indexAddr rfl rfl (by omega) (by omega)) rfl rfl ?_) | (show opsA _ _ _ _ (⟨_, .binOp _ _ _ _ _, _, _, _, _⟩ :: _) _ _; refine O_ev WideF.wide rfl (Ev_add rfl rfl (wi64 (by omega))) rfl rfl ?_)) | (show wpA _ _ _ (.cond _ _ _) _ _ _ _; (refine A_if rfl (fun h => ?_) (fun h => ?_) <;> try (exfalso; omega))))
        all_goals first
          | (exfalso; omega)
          | (refine Shift.to ⟨_, ?_, i + 1, rfl, by omega, hall.trans ⟨fun h => h.elim (fun h => absurd h hyy) id, .inr⟩, rfl⟩ ⟨rfl, rfl, rfl, ⟨rfl, rfl, rfl, rfl, trivial⟩, Own.sub_nil _⟩
             omega)
    · rw [List.drop_eq_nil_of_le (by omega)] at hall
      repeat' (first | refine O_nil ?_ | refine A_seq ?_ | refine A_region ?_ | refine A_ret ?_ | (show opsA _ _ _ _ _ _ _; refine O_ev WideF.wide rfl (Ev_pure rfl) rfl rfl ?_) | (show wpA _ _ _ (.exit _) _ _ _ _; refine A_exit rfl ?_) | (show wpA _ _ _ (.cond _ _ _) _ _ _ _; (refine A_if rfl (fun h => ?_) (fun h => ?_) <;> try (exfalso; omega))))
      all_goals first
        | (exfalso; omega)
        | exact End_e (Ret1 rfl rfl) ⟨⟨_, rfl, ⟨fun h => absurd h (by decide), fun h => by have := hall.1 h; cases this⟩⟩, rfl, rfl⟩
set_option maxRecDepth 100000 in
theorem ContainsI_fn {H : Hp} {a : Option Addr} {n cq : Nat} {l : List Int} {x : Int} (hx : HRow H a n cq 1 (l.map irow)) (hm : n < 68719476736) : FnP Tryz.prog 93 [.slice a n cq, .int .i64 x] H (.bool (decide (x ∈ l))) := by
  refine Fn_of _ _ Tryz.func93 rfl Tryz.ntmps93 rfl fun c => ?_
  repeat' (first | (refine O_ef rfl (Ef_call (I := []) WideF.wide (IndexI_fn hx hm) ⟨rfl, rfl, trivial⟩ rfl ?_); rintro v H' I' hk ⟨⟨r, rfl, hr⟩, rfl, rfl⟩) | refine O_nil ?_ | refine A_seq ?_ | refine A_region ?_ | refine A_ret ?_ | (show opsA _ _ _ _ _ _ _; refine O_ev WideF.wide rfl (Ev_pure rfl) rfl rfl ?_))
  refine End_p (Ret1 rfl rfl) ?_
  congr 1
  rw [decide_eq_decide]
  exact hr
set_option maxRecDepth 100000 in
set_option maxHeartbeats 8000000 in
theorem lcand_fn {H : Hp} (hE : EnvH H) {mb : Nat} {la : Option Addr} {n lc : Nat} {pa : Option Addr} {pn pc : Nat} {lab : List UInt8} {mm : Nat} (hM : MatH H mb la n lc pa pn pc lab mm)
    {l : List Lv} (hx : HRow H la n lc 4 (l.map lvrow)) (hn : n < 68719476736) {p : Pt} (hp : 1 ≤ p.lev ∧ p.lev ≤ n) {s : List UInt8} (hs : s.length ≤ 1000) (k : Int) :
    Fn Tryz.prog 68 [ptr mb, .agg (prow p).toArray, sv s, .int .i64 k] H [] (IntsIs (candP (fmtOf (fmts l) p) p.plain s k)) := by
  obtain ⟨lit, lev, pl⟩ := p
  dsimp only at hp ⊢
  obtain ⟨j, rfl⟩ : ∃ j : Nat, lev = j + 1 := ⟨(lev - 1).toNat, by omega⟩
  have hj1 : (j : Int) + 1 - 1 = (j : Int) := by omega
  obtain ⟨b6, o6, y, rfl, hyj, hcy⟩ := hx.atm j (by omega)
  have hfm : fmtOf (fmts l) ⟨lit, j + 1, pl⟩ = y.fmt := fmtOf_at (by show j = ((j : Int) + 1 - 1).toNat; omega) hyj
  rw [hfm]
  unfold prow MatH at *
  unfold lvrow at hcy
  dsimp only
  generalize y.fmt = f at *
  have hdg := fun Hx (hle : HLe H Hx) v0 q => ldigits_fn (hE.mono hle) f v0 q
  have hpf := fun Hx (hle : HLe H Hx) => Parse_fn (hE.mono hle) f hs
  have hp1 := fun Hx (hle : HLe H Hx) => Parse_fn (hE.mono hle) 1 hs
  unfold parseV at hpf hp1
  unfold candP
  by_cases h0 : 0 ≤ k
  · rw [if_pos h0]
    by_cases hd : digT f k pl = s
    · rw [if_pos hd]
      have hd1 := fun Hx hle => hdg Hx hle k pl
      rw [hd] at hd1
      refine Fn_of _ _ Tryz.func68 rfl Tryz.ntmps68 rfl fun c => ?_
      repeat' (first | refine O_nil ?_ | refine A_seq ?_ | refine A_region ?_ | (show opsA _ _ _ _ _ _ _; first | refine O_ev WideF.wide rfl (Ev_pure rfl) rfl rfl ?_ | (show opsA _ _ _ _ (⟨_, .box _ _, _, _, _, _⟩ :: _) _ _; (refine O_ef rfl (Ef_boxa WideF.wide rfl rfl ?_); intro b))))
      refine A_freezeBox (by intro u hu; simp at hu; rcases hu with rfl | rfl | rfl <;> rfl) ?_
      intro H1 hle1 hbx
      repeat' (first | (refine A_drawM WideF.wide (.q 0 (.q 1 (.q 2 (.q 3 (.q 4 (.q 5 (.q 6 (.q 7 (.q 8 (.q 9 (.r (.q 10 (.done []))))))))))))) [10] (by decide +kernel) ?_) | (refine D_ev rfl (Ev_loadH1 rfl (hbx 1 _ rfl)) rfl rfl ?_) | (refine D_ev rfl (Ev_loadH1 rfl (hle1 _ _ _ (hM 0 _ rfl))) rfl rfl ?_) | (refine D_ev rfl (Ev_loadH1 rfl (hle1 _ _ _ (hcy 0 _ rfl))) rfl rfl ?_) | (refine D_ev rfl (Ev_sub rfl rfl (wi64 (by omega))) rfl rfl ?_; rw [hj1]) | (refine O_ev WideF.wide rfl (Ev_loadH1 rfl (hbx 2 _ rfl)) rfl rfl ?_) | (refine O_ef rfl (Ef_call (I := []) WideF.wide (hd1 _ hle1) ⟨rfl, rfl, rfl, trivial⟩ rfl ?_); rintro u H6 I6 hle6 ⟨rfl, rfl⟩) | (refine O_ev WideF.wide rfl (Ev_seqs rfl rfl) rfl rfl ?_) | refine O_nil ?_ | refine A_seq ?_ | refine A_region ?_ | refine A_ret ?_ | (show drJ _ _ _ _ _ _ _ (.q _ _) _; refine D_q rfl ?_) | (show drJ _ _ _ _ _ _ _ (.r _) _; refine D_r ?_; simp only [List.cons_append, List.nil_append]) | (show drJ _ _ _ _ _ _ _ (.done _) _; refine D_done ?_; simp only [List.cons_append, List.nil_append]) | (show drQ _ _ _ _ _ _; first | refine D_ev rfl (Ev_pure rfl) rfl rfl ?_ | (show drQ _ _ _ ⟨_, .indexAddr _ _ _, _, _, _, _⟩ _ _; refine D_ev rfl (Ev_indexAddr rfl rfl (by omega) (by omega)) rfl rfl ?_) | (show drQ _ _ _ ⟨_, .fieldAddr _ _ _, _, _, _, _⟩ _ _; refine D_ev rfl (Ev_fieldAddr rfl rfl rfl) rfl rfl ?_) | (show drQ _ _ _ ⟨_, .nilCheck _, _, _, _, _⟩ _ _; refine D_ev rfl (Ev_nilCheck rfl) rfl rfl ?_)) | (show opsA _ _ _ _ _ _ _; first | refine O_ev WideF.wide rfl (Ev_pure rfl) rfl rfl ?_ | (show opsA _ _ _ _ (⟨_, .fieldAddr _ _ _, _, _, _, _⟩ :: _) _ _; refine O_ev WideF.wide rfl (Ev_fieldAddr rfl rfl rfl) rfl rfl ?_) | (show opsA _ _ _ _ (⟨_, .buildSlice _ _ _, _, _, _, _⟩ :: _) _ _; (refine O_ef rfl (Ef_build11 WideF.wide rfl rfl rfl ?_); intro b))) | (show wpA _ _ _ (.cond _ _ _) _ _ _ _; first | (refine A_if rfl (fun h => ?_) (fun h => ?_) <;> try (exfalso; omega)) | refine A_iftrue rfl ?_))
      all_goals first
        | (exfalso; omega)
        | (exfalso; exact absurd trivial (by assumption))
        | (exfalso; contradiction)
        | exact End_row (Ret1 rfl rfl) (irow_one [k]) fun H' hle hr => ⟨_, _, _, rfl, hr, rfl⟩
    · rw [if_neg hd]
      refine Fn_of _ _ Tryz.func68 rfl Tryz.ntmps68 rfl fun c => ?_
      repeat' (first | refine O_nil ?_ | refine A_seq ?_ | refine A_region ?_ | (show opsA _ _ _ _ _ _ _; first | refine O_ev WideF.wide rfl (Ev_pure rfl) rfl rfl ?_ | (show opsA _ _ _ _ (⟨_, .box _ _, _, _, _, _⟩ :: _) _ _; (refine O_ef rfl (Ef_boxa WideF.wide rfl rfl ?_); intro b))))
      refine A_freezeBox (by intro u hu; simp at hu; rcases hu with rfl | rfl | rfl <;> rfl) ?_
      intro H1 hle1 hbx
      repeat' (first | (refine A_drawM WideF.wide (.q 0 (.q 1 (.q 2 (.q 3 (.q 4 (.q 5 (.q 6 (.q 7 (.q 8 (.q 9 (.r (.q 10 (.done []))))))))))))) [10] (by decide +kernel) ?_) | (refine D_ev rfl (Ev_loadH1 rfl (hbx 1 _ rfl)) rfl rfl ?_) | (refine D_ev rfl (Ev_loadH1 rfl (hle1 _ _ _ (hM 0 _ rfl))) rfl rfl ?_) | (refine D_ev rfl (Ev_loadH1 rfl (hle1 _ _ _ (hcy 0 _ rfl))) rfl rfl ?_) | (refine D_ev rfl (Ev_sub rfl rfl (wi64 (by omega))) rfl rfl ?_; rw [hj1]) | (refine O_ev WideF.wide rfl (Ev_loadH1 rfl (hbx 2 _ rfl)) rfl rfl ?_) | (refine O_ef rfl (Ef_call (I := []) WideF.wide (hdg _ hle1 k pl) ⟨rfl, rfl, rfl, trivial⟩ rfl ?_); rintro u H6 I6 hle6 ⟨rfl, rfl⟩) | refine O_nil ?_ | refine A_seq ?_ | refine A_region ?_ | refine A_skip ?_ | refine A_ret ?_ | (show drJ _ _ _ _ _ _ _ (.q _ _) _; refine D_q rfl ?_) | (show drJ _ _ _ _ _ _ _ (.r _) _; refine D_r ?_; simp only [List.cons_append, List.nil_append]) | (show drJ _ _ _ _ _ _ _ (.done _) _; refine D_done ?_; simp only [List.cons_append, List.nil_append]) | (show drQ _ _ _ _ _ _; first | refine D_ev rfl (Ev_pure rfl) rfl rfl ?_ | (show drQ _ _ _ ⟨_, .indexAddr _ _ _, _, _, _, _⟩ _ _; refine D_ev rfl (Ev_indexAddr rfl rfl (by omega) (by omega)) rfl rfl ?_) | (show drQ _ _ _ ⟨_, .fieldAddr _ _ _, _, _, _, _⟩ _ _; refine D_ev rfl (Ev_fieldAddr rfl rfl rfl) rfl rfl ?_) | (show drQ _ _ _ ⟨_, .nilCheck _, _, _, _, _⟩ _ _; refine D_ev rfl (Ev_nilCheck rfl) rfl rfl ?_)) | (show opsA _ _ _ _ _ _ _; first | refine O_ev WideF.wide rfl (Ev_pure rfl) rfl rfl ?_ | (show opsA _ _ _ _ (⟨_, .fieldAddr _ _ _, _, _, _, _⟩ :: _) _ _; refine O_ev WideF.wide rfl (Ev_fieldAddr rfl rfl rfl) rfl rfl ?_) | (show opsA _ _ _ _ (⟨_, .buildSlice _ _ _, _, _, _, _⟩ :: _) _ _; (refine O_ef rfl (Ef_build11 WideF.wide rfl rfl rfl ?_); intro b)) | (show opsA _ _ _ _ (⟨_, .binOp _ _ _ _ _, _, _, _, _⟩ :: _) _ _; refine O_ev WideF.wide rfl (Ev_seql rfl rfl) rfl rfl ?_)) | (show wpA _ _ _ (.cond _ _ _) _ _ _ _; (refine A_if rfl (fun h => ?_) (fun h => ?_) <;> try (exfalso; omega))))
      all_goals first
        | (exfalso; omega)
        | (exfalso; exact absurd trivial (by assumption))
        | (exfalso; contradiction)
        | exact End_e (Ret1 rfl rfl) ⟨none, 0, 0, rfl, HRow.nil' _ 1, rfl⟩
  · rw [if_neg h0]
    by_cases hb : f = 7 ∧ pl = false
    · rw [if_pos hb]
      obtain ⟨rfl, rfl⟩ := hb
      by_cases hd : digT 7 1 false = s
      · rw [if_pos hd]
        have hd1 := fun Hx hle => hdg Hx hle 1 false
        rw [hd] at hd1
        refine Fn_of _ _ Tryz.func68 rfl Tryz.ntmps68 rfl fun c => ?_
        repeat' (first | refine O_nil ?_ | refine A_seq ?_ | refine A_region ?_ | (show opsA _ _ _ _ _ _ _; first | refine O_ev WideF.wide rfl (Ev_pure rfl) rfl rfl ?_ | (show opsA _ _ _ _ (⟨_, .box _ _, _, _, _, _⟩ :: _) _ _; (refine O_ef rfl (Ef_boxa WideF.wide rfl rfl ?_); intro b))))
        refine A_freezeBox (by intro u hu; simp at hu; rcases hu with rfl | rfl | rfl <;> rfl) ?_
        intro H1 hle1 hbx
        repeat' (first | (refine A_drawM WideF.wide (.q 0 (.q 1 (.q 2 (.q 3 (.q 4 (.q 5 (.q 6 (.q 7 (.q 8 (.q 9 (.r (.q 10 (.done []))))))))))))) [10] (by decide +kernel) ?_) | (refine D_ev rfl (Ev_loadH1 rfl (hbx 1 _ rfl)) rfl rfl ?_) | (refine D_ev rfl (Ev_loadH1 rfl (hle1 _ _ _ (hM 0 _ rfl))) rfl rfl ?_) | (refine D_ev rfl (Ev_loadH1 rfl (hle1 _ _ _ (hcy 0 _ rfl))) rfl rfl ?_) | (refine D_ev rfl (Ev_sub rfl rfl (wi64 (by omega))) rfl rfl ?_; rw [hj1]) | (refine O_ev WideF.wide rfl (Ev_loadH1 rfl (hbx 2 _ rfl)) rfl rfl ?_) | (refine O_ef rfl (Ef_call (I := []) WideF.wide (hd1 _ hle1) ⟨rfl, rfl, rfl, trivial⟩ rfl ?_); rintro u H6 I6 hle6 ⟨rfl, rfl⟩) | (refine O_ev WideF.wide rfl (Ev_seqs rfl rfl) rfl rfl ?_) | refine O_nil ?_ | refine A_seq ?_ | refine A_region ?_ | refine A_skip ?_ | refine A_ret ?_ | refine A_block ?_ | (show drJ _ _ _ _ _ _ _ (.q _ _) _; refine D_q rfl ?_) | (show drJ _ _ _ _ _ _ _ (.r _) _; refine D_r ?_; simp only [List.cons_append, List.nil_append]) | (show drJ _ _ _ _ _ _ _ (.done _) _; refine D_done ?_; simp only [List.cons_append, List.nil_append]) | (show drQ _ _ _ _ _ _; first | refine D_ev rfl (Ev_pure rfl) rfl rfl ?_ | (show drQ _ _ _ ⟨_, .indexAddr _ _ _, _, _, _, _⟩ _ _; refine D_ev rfl (Ev_indexAddr rfl rfl (by omega) (by omega)) rfl rfl ?_) | (show drQ _ _ _ ⟨_, .fieldAddr _ _ _, _, _, _, _⟩ _ _; refine D_ev rfl (Ev_fieldAddr rfl rfl rfl) rfl rfl ?_) | (show drQ _ _ _ ⟨_, .nilCheck _, _, _, _, _⟩ _ _; refine D_ev rfl (Ev_nilCheck rfl) rfl rfl ?_)) | (show opsA _ _ _ _ _ _ _; first | (refine O_split rfl rfl (fun h => ?_) (fun h => ?_) <;> try (exfalso; omega)) | refine O_ev WideF.wide rfl (Ev_pure rfl) rfl rfl ?_ | (show opsA _ _ _ _ (⟨_, .fieldAddr _ _ _, _, _, _, _⟩ :: _) _ _; refine O_ev WideF.wide rfl (Ev_fieldAddr rfl rfl rfl) rfl rfl ?_) | (show opsA _ _ _ _ (⟨_, .buildSlice _ _ _, _, _, _, _⟩ :: _) _ _; (refine O_ef rfl (Ef_build11 WideF.wide rfl rfl rfl ?_); intro b)) | (show opsA _ _ _ _ (⟨_, .unOp _ _ _, _, _, _, _⟩ :: _) _ _; refine O_ev WideF.wide rfl (Ev_notb rfl) rfl rfl ?_)) | (show wpA _ _ _ (.cond _ _ _) _ _ _ _; first | (refine A_if rfl (fun h => ?_) (fun h => ?_) <;> try (exfalso; omega)) | refine A_iftrue rfl ?_))
        all_goals first
          | (exfalso; omega)
          | (exfalso; exact absurd trivial (by assumption))
          | (exfalso; contradiction)
          | exact End_row (Ret1 rfl rfl) (irow_one [-1]) fun H' hle hr => ⟨_, _, _, rfl, hr, rfl⟩
      · rw [if_neg hd]
        by_cases hz : s = [48] ∧ k = -2
        · rw [if_pos hz]
          obtain ⟨rfl, rfl⟩ := hz
          refine Fn_of _ _ Tryz.func68 rfl Tryz.ntmps68 rfl fun c => ?_
          repeat' (first | refine O_nil ?_ | refine A_seq ?_ | refine A_region ?_ | (show opsA _ _ _ _ _ _ _; first | refine O_ev WideF.wide rfl (Ev_pure rfl) rfl rfl ?_ | (show opsA _ _ _ _ (⟨_, .box _ _, _, _, _, _⟩ :: _) _ _; (refine O_ef rfl (Ef_boxa WideF.wide rfl rfl ?_); intro b))))
          refine A_freezeBox (by intro u hu; simp at hu; rcases hu with rfl | rfl | rfl <;> rfl) ?_
          intro H1 hle1 hbx
          repeat' (first | (refine A_drawM WideF.wide (.q 0 (.q 1 (.q 2 (.q 3 (.q 4 (.q 5 (.q 6 (.q 7 (.q 8 (.q 9 (.r (.q 10 (.done []))))))))))))) [10] (by decide +kernel) ?_) | (refine D_ev rfl (Ev_loadH1 rfl (hbx 1 _ rfl)) rfl rfl ?_) | (refine D_ev rfl (Ev_loadH1 rfl (hle1 _ _ _ (hM 0 _ rfl))) rfl rfl ?_) | (refine D_ev rfl (Ev_loadH1 rfl (hle1 _ _ _ (hcy 0 _ rfl))) rfl rfl ?_) | (refine D_ev rfl (Ev_sub rfl rfl (wi64 (by omega))) rfl rfl ?_; rw [hj1]) | (refine O_ev WideF.wide rfl (Ev_loadH1 rfl (hbx 2 _ rfl)) rfl rfl ?_) | (refine O_ef rfl (Ef_call (I := []) WideF.wide (hdg _ hle1 1 false) ⟨rfl, rfl, rfl, trivial⟩ rfl ?_); rintro u H6 I6 hle6 ⟨rfl, rfl⟩) | (refine O_ev WideF.wide rfl (Ev_seqs rfl rfl) rfl rfl ?_) | refine O_nil ?_ | refine A_seq ?_ | refine A_region ?_ | refine A_skip ?_ | refine A_ret ?_ | refine A_block ?_ | (show drJ _ _ _ _ _ _ _ (.q _ _) _; refine D_q rfl ?_) | (show drJ _ _ _ _ _ _ _ (.r _) _; refine D_r ?_; simp only [List.cons_append, List.nil_append]) | (show drJ _ _ _ _ _ _ _ (.done _) _; refine D_done ?_; simp only [List.cons_append, List.nil_append]) | (show drQ _ _ _ _ _ _; first | refine D_ev rfl (Ev_pure rfl) rfl rfl ?_ | (show drQ _ _ _ ⟨_, .indexAddr _ _ _, _, _, _, _⟩ _ _; refine D_ev rfl (Ev_indexAddr rfl rfl (by omega) (by omega)) rfl rfl ?_) | (show drQ _ _ _ ⟨_, .fieldAddr _ _ _, _, _, _, _⟩ _ _; refine D_ev rfl (Ev_fieldAddr rfl rfl rfl) rfl rfl ?_) | (show drQ _ _ _ ⟨_, .nilCheck _, _, _, _, _⟩ _ _; refine D_ev rfl (Ev_nilCheck rfl) rfl rfl ?_)) | (show opsA _ _ _ _ _ _ _; first | (refine O_split rfl rfl (fun h => ?_) (fun h => ?_) <;> try (exfalso; omega)) | refine O_ev WideF.wide rfl (Ev_pure rfl) rfl rfl ?_ | (show opsA _ _ _ _ (⟨_, .fieldAddr _ _ _, _, _, _, _⟩ :: _) _ _; refine O_ev WideF.wide rfl (Ev_fieldAddr rfl rfl rfl) rfl rfl ?_) | (show opsA _ _ _ _ (⟨_, .buildSlice _ _ _, _, _, _, _⟩ :: _) _ _; (refine O_ef rfl (Ef_build11 WideF.wide rfl rfl rfl ?_); intro b)) | (show opsA _ _ _ _ (⟨_, .binOp _ _ _ _ _, _, _, _, _⟩ :: _) _ _; refine O_ev WideF.wide rfl (Ev_seql rfl rfl) rfl rfl ?_) | (show opsA _ _ _ _ (⟨_, .unOp _ _ _, _, _, _, _⟩ :: _) _ _; refine O_ev WideF.wide rfl (Ev_notb rfl) rfl rfl ?_)) | (show wpA _ _ _ (.cond _ _ _) _ _ _ _; first | (refine A_if rfl (fun h => ?_) (fun h => ?_) <;> try (exfalso; omega)) | refine A_iftrue rfl ?_))
          all_goals first
            | (exfalso; omega)
            | (exfalso; exact absurd trivial (by assumption))
            | (exfalso; contradiction)
            | exact End_row (Ret1 rfl rfl) (irow_one [0]) fun H' hle hr => ⟨_, _, _, rfl, hr, rfl⟩
        · rw [if_neg hz]
          refine Fn_of _ _ Tryz.func68 rfl Tryz.ntmps68 rfl fun c => ?_
          repeat' (first | refine O_nil ?_ | refine A_seq ?_ | refine A_region ?_ | (show opsA _ _ _ _ _ _ _; first | refine O_ev WideF.wide rfl (Ev_pure rfl) rfl rfl ?_ | (show opsA _ _ _ _ (⟨_, .box _ _, _, _, _, _⟩ :: _) _ _; (refine O_ef rfl (Ef_boxa WideF.wide rfl rfl ?_); intro b))))
          refine A_freezeBox (by intro u hu; simp at hu; rcases hu with rfl | rfl | rfl <;> rfl) ?_
          intro H1 hle1 hbx
          repeat' (first | (refine A_drawM WideF.wide (.q 0 (.q 1 (.q 2 (.q 3 (.q 4 (.q 5 (.q 6 (.q 7 (.q 8 (.q 9 (.r (.q 10 (.done []))))))))))))) [10] (by decide +kernel) ?_) | (refine D_ev rfl (Ev_loadH1 rfl (hbx 1 _ rfl)) rfl rfl ?_) | (refine D_ev rfl (Ev_loadH1 rfl (hle1 _ _ _ (hM 0 _ rfl))) rfl rfl ?_) | (refine D_ev rfl (Ev_loadH1 rfl (hle1 _ _ _ (hcy 0 _ rfl))) rfl rfl ?_) | (refine D_ev rfl (Ev_sub rfl rfl (wi64 (by omega))) rfl rfl ?_; rw [hj1]) | (refine O_ev WideF.wide rfl (Ev_loadH1 rfl (hbx 2 _ rfl)) rfl rfl ?_) | (refine O_ef rfl (Ef_call (I := []) WideF.wide (hdg _ hle1 1 false) ⟨rfl, rfl, rfl, trivial⟩ rfl ?_); rintro u H6 I6 hle6 ⟨rfl, rfl⟩) | refine O_nil ?_ | refine A_seq ?_ | refine A_region ?_ | refine A_skip ?_ | refine A_ret ?_ | refine A_block ?_ | (show drJ _ _ _ _ _ _ _ (.q _ _) _; refine D_q rfl ?_) | (show drJ _ _ _ _ _ _ _ (.r _) _; refine D_r ?_; simp only [List.cons_append, List.nil_append]) | (show drJ _ _ _ _ _ _ _ (.done _) _; refine D_done ?_; simp only [List.cons_append, List.nil_append]) | (show drQ _ _ _ _ _ _; first | refine D_ev rfl (Ev_pure rfl) rfl rfl ?_ | (show drQ _ _ _ ⟨_, .indexAddr _ _ _, _, _, _, _⟩ _ _; refine D_ev rfl (Ev_indexAddr rfl rfl (by omega) (by omega)) rfl rfl ?_) | (show drQ _ _ _ ⟨_, .fieldAddr _ _ _, _, _, _, _⟩ _ _; refine D_ev rfl (Ev_fieldAddr rfl rfl rfl) rfl rfl ?_) | (show drQ _ _ _ ⟨_, .nilCheck _, _, _, _, _⟩ _ _; refine D_ev rfl (Ev_nilCheck rfl) rfl rfl ?_)) | (show opsA _ _ _ _ _ _ _; first | (refine O_split rfl rfl (fun h => ?_) (fun h => ?_) <;> try (exfalso; omega)) | refine O_ev WideF.wide rfl (Ev_pure rfl) rfl rfl ?_ | (show opsA _ _ _ _ (⟨_, .fieldAddr _ _ _, _, _, _, _⟩ :: _) _ _; refine O_ev WideF.wide rfl (Ev_fieldAddr rfl rfl rfl) rfl rfl ?_) | (show opsA _ _ _ _ (⟨_, .buildSlice _ _ _, _, _, _, _⟩ :: _) _ _; (refine O_ef rfl (Ef_build11 WideF.wide rfl rfl rfl ?_); intro b)) | (show opsA _ _ _ _ (⟨_, .binOp _ _ _ _ _, _, _, _, _⟩ :: _) _ _; refine O_ev WideF.wide rfl (Ev_seql rfl rfl) rfl rfl ?_) | (show opsA _ _ _ _ (⟨_, .unOp _ _ _, _, _, _, _⟩ :: _) _ _; refine O_ev WideF.wide rfl (Ev_notb rfl) rfl rfl ?_) | refine O_skip WideF.wide rfl rfl rfl ?_) | (show wpA _ _ _ (.cond _ _ _) _ _ _ _; first | (refine A_if rfl (fun h => ?_) (fun h => ?_) <;> try (exfalso; omega)) | refine A_iftrue rfl ?_ | refine A_iffalse rfl ?_))
          all_goals first
            | (exfalso; omega)
            | (exfalso; exact absurd trivial (by assumption))
            | (exfalso; exact hz ⟨by assumption, by assumption⟩)
            | (exfalso; contradiction)
            | exact End_e (Ret1 rfl rfl) ⟨none, 0, 0, rfl, HRow.nil' _ 1, rfl⟩
    · rw [if_neg hb, prs_parse, prs_parse]
      have hf7 : f = 7 → pl = true := fun h => by
        cases pl with
        | true => rfl
        | false => exact absurd ⟨h, rfl⟩ hb
      generalize parseE f s = r1 at *
      generalize parseE 1 s = r2 at *
      obtain ⟨z1, e1⟩ := r1
      obtain ⟨z2, e2⟩ := r2
      dsimp only at hpf hp1 ⊢
      have hci := fun Hx a1 n1 c1 (L : List Int) x (hn1 : n1 < 68719476736) => Fn.borrow (P := Tryz.prog) (f := 93) (args := [.slice a1 n1 c1, .int .i64 x]) (H := Hx) (a := a1) (n := n1) (c := c1) (k := 1) (css := L.map irow) (Q := fun v => v = .bool (decide (x ∈ L))) (irow_one L) (fun H1 _ hr => (ContainsI_fn hr hn1).mono fun v _ I' h => ⟨h.1, h.2.2⟩)
      cases pl with
      | true =>
        rw [if_pos rfl]
        by_cases h2 : e2 = 0
        · subst h2
          rw [if_pos rfl]
          dsimp only
          by_cases hc : digT f z2 true = s ∧ (k = -2 ∨ 1 ≤ z2) ∧ z2 ∉ ([] : List Int)
          · rw [if_pos hc]
            obtain ⟨hc1, hc2, hc3⟩ := hc
            refine Fn_of _ _ Tryz.func68 rfl Tryz.ntmps68 rfl fun c => ?_
            refine A_nilrow 1 ?_
            repeat' (first | refine O_nil ?_ | refine A_seq ?_ | refine A_region ?_ | (show opsA _ _ _ _ _ _ _; first | refine O_ev WideF.wide rfl (Ev_pure rfl) rfl rfl ?_ | (show opsA _ _ _ _ (⟨_, .box _ _, _, _, _, _⟩ :: _) _ _; (refine O_ef rfl (Ef_boxa WideF.wide rfl rfl ?_); intro b))))
            refine A_freezeBox (by intro u hu; simp at hu; rcases hu with rfl | rfl | rfl <;> rfl) ?_
            intro H1 hle1 hbx
            repeat' (first | (show drJ _ _ _ _ _ _ _ (.done _) _; refine D_done ?_; rw [List.append_nil]) | (refine A_drawM WideF.wide (.q 0 (.q 1 (.q 2 (.q 3 (.q 4 (.q 5 (.q 6 (.q 7 (.q 8 (.q 9 (.r (.q 10 (.done []))))))))))))) [10] (by decide +kernel) ?_) | (refine D_ev rfl (Ev_loadH1 rfl (hbx 1 _ rfl)) rfl rfl ?_) | (refine D_ev rfl (Ev_loadH1 rfl (hle1 _ _ _ (hM 0 _ rfl))) rfl rfl ?_) | (refine D_ev rfl (Ev_loadH1 rfl (hle1 _ _ _ (hcy 0 _ rfl))) rfl rfl ?_) | (refine D_ev rfl (Ev_sub rfl rfl (wi64 (by omega))) rfl rfl ?_; rw [hj1]) | (refine O_ev WideF.wide rfl (Ev_loadH1 rfl (hbx 2 _ rfl)) rfl rfl ?_) | (refine O_ef rfl (Ef_call (I := []) WideF.wide (hpf _ hle1) ⟨rfl, rfl, trivial⟩ rfl ?_); rintro v H2 I2 hle2 ⟨rfl, rfl⟩) | (refine O_ef rfl (Ef_call (I := []) WideF.wide (hp1 _ (hle1.trans hle2)) ⟨rfl, rfl, trivial⟩ rfl ?_); rintro v H3 I3 hle3 ⟨rfl, rfl⟩) | (refine O_ev WideF.wide rfl (Ev_loadH1 rfl (hle2 _ _ _ (hbx 2 _ rfl))) rfl rfl ?_) | (refine O_ev WideF.wide rfl (Ev_loadH1 rfl (hle3 _ _ _ (hle2 _ _ _ (hbx 2 _ rfl)))) rfl rfl ?_) | (refine O_ef rfl (Ef_call (I := []) WideF.wide (hdg _ ((hle1.trans hle2).trans hle3) z2 true) ⟨rfl, rfl, rfl, trivial⟩ rfl ?_); rintro v H4 I4 hle4 ⟨rfl, rfl⟩) | (refine O_ef rfl (Ef_call0 WideF.wide (hci _ _ _ _ [] z2 (by simp)) ⟨rfl, rfl, trivial⟩ rfl ?_); rintro v H5 I5 hle5 ⟨rfl, rfl, rfl⟩) | refine O_nil ?_ | refine A_seq ?_ | refine A_region ?_ | refine A_skip ?_ | refine A_ret ?_ | (show drJ _ _ _ _ _ _ _ (.q _ _) _; refine D_q rfl ?_) | (show drJ _ _ _ _ _ _ _ (.r _) _; refine D_r ?_; simp only [List.cons_append, List.nil_append]) | (show drQ _ _ _ _ _ _; first | refine D_ev rfl (Ev_pure rfl) rfl rfl ?_ | (show drQ _ _ _ ⟨_, .indexAddr _ _ _, _, _, _, _⟩ _ _; refine D_ev rfl (Ev_indexAddr rfl rfl (by omega) (by omega)) rfl rfl ?_) | (show drQ _ _ _ ⟨_, .fieldAddr _ _ _, _, _, _, _⟩ _ _; refine D_ev rfl (Ev_fieldAddr rfl rfl rfl) rfl rfl ?_) | (show drQ _ _ _ ⟨_, .nilCheck _, _, _, _, _⟩ _ _; refine D_ev rfl (Ev_nilCheck rfl) rfl rfl ?_)) | (show opsA _ _ _ _ _ _ _; first | (refine O_split rfl rfl (fun h => ?_) (fun h => ?_) <;> try (exfalso; omega)) | refine O_ev WideF.wide rfl (Ev_pure rfl) rfl rfl ?_ | (show opsA _ _ _ _ (⟨_, .fieldAddr _ _ _, _, _, _, _⟩ :: _) _ _; refine O_ev WideF.wide rfl (Ev_fieldAddr rfl rfl rfl) rfl rfl ?_) | (show opsA _ _ _ _ (⟨_, .call _, _, _, _, _⟩ :: _) _ _; (refine O_f1 (O_ef rfl (Ef_appendR WideF.wide rfl rfl rfl rfl rfl (by simp) (by simp) rfl ?_)); intro a cp)) | (show opsA _ _ _ _ (⟨_, .buildSlice _ _ _, _, _, _, _⟩ :: _) _ _; (refine O_ef rfl (Ef_build11 WideF.wide rfl rfl rfl ?_); intro b)) | (show opsA _ _ _ _ (⟨_, .binOp _ _ _ _ _, _, _, _, _⟩ :: _) _ _; refine O_ev WideF.wide rfl (Ev_seql rfl rfl) rfl rfl ?_) | (show opsA _ _ _ _ (⟨_, .unOp _ _ _, _, _, _, _⟩ :: _) _ _; first | refine O_ev WideF.wide rfl (Ev_not rfl) rfl rfl ?_ | refine O_ev WideF.wide rfl (Ev_notb rfl) rfl rfl ?_) | refine O_skip WideF.wide rfl rfl rfl ?_) | (show wpA _ _ _ (.cond _ _ _) _ _ _ _; first | (refine A_if rfl (fun h => ?_) (fun h => ?_) <;> try (exfalso; omega)) | refine A_iffalse rfl ?_))
            all_goals first
              | (exfalso; omega)
              | (exfalso; exact absurd trivial (by assumption))
              | (exfalso; contradiction)
              | exact End_row (Ret1 rfl rfl) (irow_one [z2]) fun H' hle hr => ⟨_, _, _, rfl, hr, rfl⟩
          · rw [if_neg hc, List.append_nil]
            refine Fn_of _ _ Tryz.func68 rfl Tryz.ntmps68 rfl fun c => ?_
            refine A_nilrow 1 ?_
            repeat' (first | refine O_nil ?_ | refine A_seq ?_ | refine A_region ?_ | (show opsA _ _ _ _ _ _ _; first | refine O_ev WideF.wide rfl (Ev_pure rfl) rfl rfl ?_ | (show opsA _ _ _ _ (⟨_, .box _ _, _, _, _, _⟩ :: _) _ _; (refine O_ef rfl (Ef_boxa WideF.wide rfl rfl ?_); intro b))))
            refine A_freezeBox (by intro u hu; simp at hu; rcases hu with rfl | rfl | rfl <;> rfl) ?_
            intro H1 hle1 hbx
            repeat' (first | (show drJ _ _ _ _ _ _ _ (.done _) _; refine D_done ?_; rw [List.append_nil]) | (refine A_drawM WideF.wide (.q 0 (.q 1 (.q 2 (.q 3 (.q 4 (.q 5 (.q 6 (.q 7 (.q 8 (.q 9 (.r (.q 10 (.done []))))))))))))) [10] (by decide +kernel) ?_) | (refine D_ev rfl (Ev_loadH1 rfl (hbx 1 _ rfl)) rfl rfl ?_) | (refine D_ev rfl (Ev_loadH1 rfl (hle1 _ _ _ (hM 0 _ rfl))) rfl rfl ?_) | (refine D_ev rfl (Ev_loadH1 rfl (hle1 _ _ _ (hcy 0 _ rfl))) rfl rfl ?_) | (refine D_ev rfl (Ev_sub rfl rfl (wi64 (by omega))) rfl rfl ?_; rw [hj1]) | (refine O_ev WideF.wide rfl (Ev_loadH1 rfl (hbx 2 _ rfl)) rfl rfl ?_) | (refine O_ef rfl (Ef_call (I := []) WideF.wide (hpf _ hle1) ⟨rfl, rfl, trivial⟩ rfl ?_); rintro v H2 I2 hle2 ⟨rfl, rfl⟩) | (refine O_ef rfl (Ef_call (I := []) WideF.wide (hp1 _ (hle1.trans hle2)) ⟨rfl, rfl, trivial⟩ rfl ?_); rintro v H3 I3 hle3 ⟨rfl, rfl⟩) | (refine O_ev WideF.wide rfl (Ev_loadH1 rfl (hle2 _ _ _ (hbx 2 _ rfl))) rfl rfl ?_) | (refine O_ev WideF.wide rfl (Ev_loadH1 rfl (hle3 _ _ _ (hle2 _ _ _ (hbx 2 _ rfl)))) rfl rfl ?_) | (refine O_ef rfl (Ef_call (I := []) WideF.wide (hdg _ ((hle1.trans hle2).trans hle3) z2 true) ⟨rfl, rfl, rfl, trivial⟩ rfl ?_); rintro v H4 I4 hle4 ⟨rfl, rfl⟩) | (refine O_ef rfl (Ef_call0 WideF.wide (hci _ _ _ _ [] z2 (by simp)) ⟨rfl, rfl, trivial⟩ rfl ?_); rintro v H5 I5 hle5 ⟨rfl, rfl, rfl⟩) | refine O_nil ?_ | refine A_seq ?_ | refine A_region ?_ | refine A_skip ?_ | refine A_ret ?_ | (show drJ _ _ _ _ _ _ _ (.q _ _) _; refine D_q rfl ?_) | (show drJ _ _ _ _ _ _ _ (.r _) _; refine D_r ?_; simp only [List.cons_append, List.nil_append]) | (show drQ _ _ _ _ _ _; first | refine D_ev rfl (Ev_pure rfl) rfl rfl ?_ | (show drQ _ _ _ ⟨_, .indexAddr _ _ _, _, _, _, _⟩ _ _; refine D_ev rfl (Ev_indexAddr rfl rfl (by omega) (by omega)) rfl rfl ?_) | (show drQ _ _ _ ⟨_, .fieldAddr _ _ _, _, _, _, _⟩ _ _; refine D_ev rfl (Ev_fieldAddr rfl rfl rfl) rfl rfl ?_) | (show drQ _ _ _ ⟨_, .nilCheck _, _, _, _, _⟩ _ _; refine D_ev rfl (Ev_nilCheck rfl) rfl rfl ?_)) | (show opsA _ _ _ _ _ _ _; first | (refine O_split rfl rfl (fun h => ?_) (fun h => ?_) <;> try (exfalso; omega)) | refine O_ev WideF.wide rfl (Ev_pure rfl) rfl rfl ?_ | (show opsA _ _ _ _ (⟨_, .fieldAddr _ _ _, _, _, _, _⟩ :: _) _ _; refine O_ev WideF.wide rfl (Ev_fieldAddr rfl rfl rfl) rfl rfl ?_) | (show opsA _ _ _ _ (⟨_, .call _, _, _, _, _⟩ :: _) _ _; (refine O_f1 (O_ef rfl (Ef_appendR WideF.wide rfl rfl rfl rfl rfl (by simp) (by simp) rfl ?_)); intro a cp)) | (show opsA _ _ _ _ (⟨_, .buildSlice _ _ _, _, _, _, _⟩ :: _) _ _; (refine O_ef rfl (Ef_build11 WideF.wide rfl rfl rfl ?_); intro b)) | (show opsA _ _ _ _ (⟨_, .binOp _ _ _ _ _, _, _, _, _⟩ :: _) _ _; refine O_ev WideF.wide rfl (Ev_seql rfl rfl) rfl rfl ?_) | (show opsA _ _ _ _ (⟨_, .unOp _ _ _, _, _, _, _⟩ :: _) _ _; first | refine O_ev WideF.wide rfl (Ev_not rfl) rfl rfl ?_ | refine O_ev WideF.wide rfl (Ev_notb rfl) rfl rfl ?_) | refine O_skip WideF.wide rfl rfl rfl ?_) | (show wpA _ _ _ (.cond _ _ _) _ _ _ _; first | (refine A_if rfl (fun h => ?_) (fun h => ?_) <;> try (exfalso; omega)) | refine A_iffalse rfl ?_))
            all_goals first
              | (exfalso; omega)
              | (exfalso; exact absurd trivial (by assumption))
              | (exfalso; exact hc ⟨by assumption, by omega, by assumption⟩)
              | (exfalso; contradiction)
              | exact End_row (Ret1 rfl rfl) (irow_one []) fun H' hle hr => ⟨_, _, _, rfl, hr, rfl⟩
        · rw [if_neg h2, List.append_nil]
          refine Fn_of _ _ Tryz.func68 rfl Tryz.ntmps68 rfl fun c => ?_
          refine A_nilrow 1 ?_
          repeat' (first | refine O_nil ?_ | refine A_seq ?_ | refine A_region ?_ | (show opsA _ _ _ _ _ _ _; first | refine O_ev WideF.wide rfl (Ev_pure rfl) rfl rfl ?_ | (show opsA _ _ _ _ (⟨_, .box _ _, _, _, _, _⟩ :: _) _ _; (refine O_ef rfl (Ef_boxa WideF.wide rfl rfl ?_); intro b))))
          refine A_freezeBox (by intro u hu; simp at hu; rcases hu with rfl | rfl | rfl <;> rfl) ?_
          intro H1 hle1 hbx
          repeat' (first | (show drJ _ _ _ _ _ _ _ (.done _) _; refine D_done ?_; rw [List.append_nil]) | (refine A_drawM WideF.wide (.q 0 (.q 1 (.q 2 (.q 3 (.q 4 (.q 5 (.q 6 (.q 7 (.q 8 (.q 9 (.r (.q 10 (.done []))))))))))))) [10] (by decide +kernel) ?_) | (refine D_ev rfl (Ev_loadH1 rfl (hbx 1 _ rfl)) rfl rfl ?_) | (refine D_ev rfl (Ev_loadH1 rfl (hle1 _ _ _ (hM 0 _ rfl))) rfl rfl ?_) | (refine D_ev rfl (Ev_loadH1 rfl (hle1 _ _ _ (hcy 0 _ rfl))) rfl rfl ?_) | (refine D_ev rfl (Ev_sub rfl rfl (wi64 (by omega))) rfl rfl ?_; rw [hj1]) | (refine O_ev WideF.wide rfl (Ev_loadH1 rfl (hbx 2 _ rfl)) rfl rfl ?_) | (refine O_ef rfl (Ef_call (I := []) WideF.wide (hpf _ hle1) ⟨rfl, rfl, trivial⟩ rfl ?_); rintro v H2 I2 hle2 ⟨rfl, rfl⟩) | (refine O_ef rfl (Ef_call (I := []) WideF.wide (hp1 _ (hle1.trans hle2)) ⟨rfl, rfl, trivial⟩ rfl ?_); rintro v H3 I3 hle3 ⟨rfl, rfl⟩) | (refine O_ev WideF.wide rfl (Ev_loadH1 rfl (hle2 _ _ _ (hbx 2 _ rfl))) rfl rfl ?_) | refine O_nil ?_ | refine A_seq ?_ | refine A_region ?_ | refine A_skip ?_ | refine A_ret ?_ | (show drJ _ _ _ _ _ _ _ (.q _ _) _; refine D_q rfl ?_) | (show drJ _ _ _ _ _ _ _ (.r _) _; refine D_r ?_; simp only [List.cons_append, List.nil_append]) | (show drQ _ _ _ _ _ _; first | refine D_ev rfl (Ev_pure rfl) rfl rfl ?_ | (show drQ _ _ _ ⟨_, .indexAddr _ _ _, _, _, _, _⟩ _ _; refine D_ev rfl (Ev_indexAddr rfl rfl (by omega) (by omega)) rfl rfl ?_) | (show drQ _ _ _ ⟨_, .fieldAddr _ _ _, _, _, _, _⟩ _ _; refine D_ev rfl (Ev_fieldAddr rfl rfl rfl) rfl rfl ?_) | (show drQ _ _ _ ⟨_, .nilCheck _, _, _, _, _⟩ _ _; refine D_ev rfl (Ev_nilCheck rfl) rfl rfl ?_)) | (show opsA _ _ _ _ _ _ _; first | (refine O_split rfl rfl (fun h => ?_) (fun h => ?_) <;> try (exfalso; omega)) | refine O_ev WideF.wide rfl (Ev_pure rfl) rfl rfl ?_ | (show opsA _ _ _ _ (⟨_, .fieldAddr _ _ _, _, _, _, _⟩ :: _) _ _; refine O_ev WideF.wide rfl (Ev_fieldAddr rfl rfl rfl) rfl rfl ?_) | (show opsA _ _ _ _ (⟨_, .unOp _ _ _, _, _, _, _⟩ :: _) _ _; refine O_ev WideF.wide rfl (Ev_notb rfl) rfl rfl ?_) | refine O_skip WideF.wide rfl rfl rfl ?_) | (show wpA _ _ _ (.cond _ _ _) _ _ _ _; first | (refine A_if rfl (fun h => ?_) (fun h => ?_) <;> try (exfalso; omega)) | refine A_iffalse rfl ?_))
          all_goals first
            | (exfalso; omega)
            | (exfalso; exact absurd trivial (by assumption))
            | (exfalso; contradiction)
            | exact End_row (Ret1 rfl rfl) (irow_one []) fun H' hle hr => ⟨_, _, _, rfl, hr, rfl⟩
      | false =>
        rw [if_neg (by decide)]
        have hf7 : f ≠ 7 := fun h => hb ⟨h, rfl⟩
        by_cases h1 : e1 = 0
        · subst h1
          rw [if_pos rfl, Option.toList_some]
          by_cases h2 : e2 = 0
          · subst h2
            rw [if_pos rfl]
            dsimp only
            by_cases hc : digT f z2 false = s ∧ (k = -2 ∨ 1 ≤ z2) ∧ z2 ∉ ([z1] : List Int)
            · rw [if_pos hc]
              obtain ⟨hc1, hc2, hc3⟩ := hc
              refine Fn_of _ _ Tryz.func68 rfl Tryz.ntmps68 rfl fun c => ?_
              refine A_nilrow 1 ?_
              repeat' (first | refine O_nil ?_ | refine A_seq ?_ | refine A_region ?_ | (show opsA _ _ _ _ _ _ _; first | refine O_ev WideF.wide rfl (Ev_pure rfl) rfl rfl ?_ | (show opsA _ _ _ _ (⟨_, .box _ _, _, _, _, _⟩ :: _) _ _; (refine O_ef rfl (Ef_boxa WideF.wide rfl rfl ?_); intro b))))
              refine A_freezeBox (by intro u hu; simp at hu; rcases hu with rfl | rfl | rfl <;> rfl) ?_
              intro H1 hle1 hbx
              repeat' (first | (show drJ _ _ _ _ _ _ _ (.done _) _; refine D_done ?_; rw [List.append_nil]) | (refine A_drawM WideF.wide (.q 0 (.q 1 (.q 2 (.q 3 (.q 4 (.q 5 (.q 6 (.q 7 (.q 8 (.q 9 (.r (.q 10 (.done []))))))))))))) [10] (by decide +kernel) ?_) | (refine D_ev rfl (Ev_loadH1 rfl (hbx 1 _ rfl)) rfl rfl ?_) | (refine D_ev rfl (Ev_loadH1 rfl (hle1 _ _ _ (hM 0 _ rfl))) rfl rfl ?_) | (refine D_ev rfl (Ev_loadH1 rfl (hle1 _ _ _ (hcy 0 _ rfl))) rfl rfl ?_) | (refine D_ev rfl (Ev_sub rfl rfl (wi64 (by omega))) rfl rfl ?_; rw [hj1]) | (refine O_ef rfl (Ef_call (I := []) WideF.wide (hpf _ hle1) ⟨rfl, rfl, trivial⟩ rfl ?_); rintro v H2 I2 hle2 ⟨rfl, rfl⟩) | (refine O_ef rfl (Ef_call (I := []) WideF.wide (hp1 _ (hle1.trans hle2)) ⟨rfl, rfl, trivial⟩ rfl ?_); rintro v H3 I3 hle3 ⟨rfl, rfl⟩) | (refine O_ev WideF.wide rfl (Ev_loadH1 rfl (hle2 _ _ _ (hbx 2 _ rfl))) rfl rfl ?_) | (refine O_ev WideF.wide rfl (Ev_loadH1 rfl (hle3 _ _ _ (hle2 _ _ _ (hbx 2 _ rfl)))) rfl rfl ?_) | (refine O_ef rfl (Ef_call (I := []) WideF.wide (hdg _ ((hle1.trans hle2).trans hle3) z2 false) ⟨rfl, rfl, rfl, trivial⟩ rfl ?_); rintro v H4 I4 hle4 ⟨rfl, rfl⟩) | (refine O_ef rfl (Ef_call0 WideF.wide (hci _ _ _ _ [z1] z2 (by simp)) ⟨rfl, rfl, trivial⟩ rfl ?_); rintro v H5 I5 hle5 ⟨rfl, rfl, rfl⟩) | refine O_nil ?_ | refine A_seq ?_ | refine A_region ?_ | refine A_skip ?_ | refine A_ret ?_ | (show drJ _ _ _ _ _ _ _ (.q _ _) _; refine D_q rfl ?_) | (show drJ _ _ _ _ _ _ _ (.r _) _; refine D_r ?_; simp only [List.cons_append, List.nil_append]) | (show drQ _ _ _ _ _ _; first | refine D_ev rfl (Ev_pure rfl) rfl rfl ?_ | (show drQ _ _ _ ⟨_, .indexAddr _ _ _, _, _, _, _⟩ _ _; refine D_ev rfl (Ev_indexAddr rfl rfl (by omega) (by omega)) rfl rfl ?_) | (show drQ _ _ _ ⟨_, .fieldAddr _ _ _, _, _, _, _⟩ _ _; refine D_ev rfl (Ev_fieldAddr rfl rfl rfl) rfl rfl ?_) | (show drQ _ _ _ ⟨_, .nilCheck _, _, _, _, _⟩ _ _; refine D_ev rfl (Ev_nilCheck rfl) rfl rfl ?_)) | (show opsA _ _ _ _ _ _ _; first | (refine O_split rfl rfl (fun h => ?_) (fun h => ?_) <;> try (exfalso; omega)) | refine O_ev WideF.wide rfl (Ev_pure rfl) rfl rfl ?_ | (show opsA _ _ _ _ (⟨_, .fieldAddr _ _ _, _, _, _, _⟩ :: _) _ _; refine O_ev WideF.wide rfl (Ev_fieldAddr rfl rfl rfl) rfl rfl ?_) | (show opsA _ _ _ _ (⟨_, .call _, _, _, _, _⟩ :: _) _ _; (refine O_f1 (O_ef rfl (Ef_appendR WideF.wide rfl rfl rfl rfl rfl (by simp) (by simp) rfl ?_)); intro a cp)) | (show opsA _ _ _ _ (⟨_, .buildSlice _ _ _, _, _, _, _⟩ :: _) _ _; (refine O_ef rfl (Ef_build11 WideF.wide rfl rfl rfl ?_); intro b)) | (show opsA _ _ _ _ (⟨_, .binOp _ _ _ _ _, _, _, _, _⟩ :: _) _ _; refine O_ev WideF.wide rfl (Ev_seql rfl rfl) rfl rfl ?_) | (show opsA _ _ _ _ (⟨_, .unOp _ _ _, _, _, _, _⟩ :: _) _ _; first | refine O_ev WideF.wide rfl (Ev_not rfl) rfl rfl ?_ | refine O_ev WideF.wide rfl (Ev_notb rfl) rfl rfl ?_) | refine O_skip WideF.wide rfl rfl rfl ?_) | (show wpA _ _ _ (.cond _ _ _) _ _ _ _; first | (refine A_if rfl (fun h => ?_) (fun h => ?_) <;> try (exfalso; omega)) | refine A_iftrue rfl ?_ | refine A_iffalse rfl ?_))
              all_goals first
                | (exfalso; omega)
                | (exfalso; exact absurd trivial (by assumption))
                | (exfalso; contradiction)
                | exact End_row (Ret1 rfl rfl) (irow_one [z1, z2]) fun H' hle hr => ⟨_, _, _, rfl, hr, rfl⟩
            · rw [if_neg hc, List.append_nil]
              refine Fn_of _ _ Tryz.func68 rfl Tryz.ntmps68 rfl fun c => ?_
              refine A_nilrow 1 ?_
              repeat' (first | refine O_nil ?_ | refine A_seq ?_ | refine A_region ?_ | (show opsA _ _ _ _ _ _ _; first | refine O_ev WideF.wide rfl (Ev_pure rfl) rfl rfl ?_ | (show opsA _ _ _ _ (⟨_, .box _ _, _, _, _, _⟩ :: _) _ _; (refine O_ef rfl (Ef_boxa WideF.wide rfl rfl ?_); intro b))))
              refine A_freezeBox (by intro u hu; simp at hu; rcases hu with rfl | rfl | rfl <;> rfl) ?_
              intro H1 hle1 hbx
              repeat' (first | (show drJ _ _ _ _ _ _ _ (.done _) _; refine D_done ?_; rw [List.append_nil]) | (refine A_drawM WideF.wide (.q 0 (.q 1 (.q 2 (.q 3 (.q 4 (.q 5 (.q 6 (.q 7 (.q 8 (.q 9 (.r (.q 10 (.done []))))))))))))) [10] (by decide +kernel) ?_) | (refine D_ev rfl (Ev_loadH1 rfl (hbx 1 _ rfl)) rfl rfl ?_) | (refine D_ev rfl (Ev_loadH1 rfl (hle1 _ _ _ (hM 0 _ rfl))) rfl rfl ?_) | (refine D_ev rfl (Ev_loadH1 rfl (hle1 _ _ _ (hcy 0 _ rfl))) rfl rfl ?_) | (refine D_ev rfl (Ev_sub rfl rfl (wi64 (by omega))) rfl rfl ?_; rw [hj1]) | (refine O_ef rfl (Ef_call (I := []) WideF.wide (hpf _ hle1) ⟨rfl, rfl, trivial⟩ rfl ?_); rintro v H2 I2 hle2 ⟨rfl, rfl⟩) | (refine O_ef rfl (Ef_call (I := []) WideF.wide (hp1 _ (hle1.trans hle2)) ⟨rfl, rfl, trivial⟩ rfl ?_); rintro v H3 I3 hle3 ⟨rfl, rfl⟩) | (refine O_ev WideF.wide rfl (Ev_loadH1 rfl (hle2 _ _ _ (hbx 2 _ rfl))) rfl rfl ?_) | (refine O_ev WideF.wide rfl (Ev_loadH1 rfl (hle3 _ _ _ (hle2 _ _ _ (hbx 2 _ rfl)))) rfl rfl ?_) | (refine O_ef rfl (Ef_call (I := []) WideF.wide (hdg _ ((hle1.trans hle2).trans hle3) z2 false) ⟨rfl, rfl, rfl, trivial⟩ rfl ?_); rintro v H4 I4 hle4 ⟨rfl, rfl⟩) | (refine O_ef rfl (Ef_call0 WideF.wide (hci _ _ _ _ [z1] z2 (by simp)) ⟨rfl, rfl, trivial⟩ rfl ?_); rintro v H5 I5 hle5 ⟨rfl, rfl, rfl⟩) | refine O_nil ?_ | refine A_seq ?_ | refine A_region ?_ | refine A_skip ?_ | refine A_ret ?_ | (show drJ _ _ _ _ _ _ _ (.q _ _) _; refine D_q rfl ?_) | (show drJ _ _ _ _ _ _ _ (.r _) _; refine D_r ?_; simp only [List.cons_append, List.nil_append]) | (show drQ _ _ _ _ _ _; first | refine D_ev rfl (Ev_pure rfl) rfl rfl ?_ | (show drQ _ _ _ ⟨_, .indexAddr _ _ _, _, _, _, _⟩ _ _; refine D_ev rfl (Ev_indexAddr rfl rfl (by omega) (by omega)) rfl rfl ?_) | (show drQ _ _ _ ⟨_, .fieldAddr _ _ _, _, _, _, _⟩ _ _; refine D_ev rfl (Ev_fieldAddr rfl rfl rfl) rfl rfl ?_) | (show drQ _ _ _ ⟨_, .nilCheck _, _, _, _, _⟩ _ _; refine D_ev rfl (Ev_nilCheck rfl) rfl rfl ?_)) | (show opsA _ _ _ _ _ _ _; first | (refine O_split rfl rfl (fun h => ?_) (fun h => ?_) <;> try (exfalso; omega)) | refine O_ev WideF.wide rfl (Ev_pure rfl) rfl rfl ?_ | (show opsA _ _ _ _ (⟨_, .fieldAddr _ _ _, _, _, _, _⟩ :: _) _ _; refine O_ev WideF.wide rfl (Ev_fieldAddr rfl rfl rfl) rfl rfl ?_) | (show opsA _ _ _ _ (⟨_, .call _, _, _, _, _⟩ :: _) _ _; (refine O_f1 (O_ef rfl (Ef_appendR WideF.wide rfl rfl rfl rfl rfl (by simp) (by simp) rfl ?_)); intro a cp)) | (show opsA _ _ _ _ (⟨_, .buildSlice _ _ _, _, _, _, _⟩ :: _) _ _; (refine O_ef rfl (Ef_build11 WideF.wide rfl rfl rfl ?_); intro b)) | (show opsA _ _ _ _ (⟨_, .binOp _ _ _ _ _, _, _, _, _⟩ :: _) _ _; refine O_ev WideF.wide rfl (Ev_seql rfl rfl) rfl rfl ?_) | (show opsA _ _ _ _ (⟨_, .unOp _ _ _, _, _, _, _⟩ :: _) _ _; first | refine O_ev WideF.wide rfl (Ev_not rfl) rfl rfl ?_ | refine O_ev WideF.wide rfl (Ev_notb rfl) rfl rfl ?_) | refine O_skip WideF.wide rfl rfl rfl ?_) | (show wpA _ _ _ (.cond _ _ _) _ _ _ _; first | (refine A_if rfl (fun h => ?_) (fun h => ?_) <;> try (exfalso; omega)) | refine A_iftrue rfl ?_ | refine A_iffalse rfl ?_))
              all_goals first
                | (exfalso; omega)
                | (exfalso; exact absurd trivial (by assumption))
                | (exfalso; exact hc ⟨by assumption, by omega, by assumption⟩)
                | (exfalso; contradiction)
                | exact End_row (Ret1 rfl rfl) (irow_one [z1]) fun H' hle hr => ⟨_, _, _, rfl, hr, rfl⟩
          · rw [if_neg h2, List.append_nil]
            refine Fn_of _ _ Tryz.func68 rfl Tryz.ntmps68 rfl fun c => ?_
            refine A_nilrow 1 ?_
            repeat' (first | refine O_nil ?_ | refine A_seq ?_ | refine A_region ?_ | (show opsA _ _ _ _ _ _ _; first | refine O_ev WideF.wide rfl (Ev_pure rfl) rfl rfl ?_ | (show opsA _ _ _ _ (⟨_, .box _ _, _, _, _, _⟩ :: _) _ _; (refine O_ef rfl (Ef_boxa WideF.wide rfl rfl ?_); intro b))))
            refine A_freezeBox (by intro u hu; simp at hu; rcases hu with rfl | rfl | rfl <;> rfl) ?_
            intro H1 hle1 hbx
            repeat' (first | (show drJ _ _ _ _ _ _ _ (.done _) _; refine D_done ?_; rw [List.append_nil]) | (refine A_drawM WideF.wide (.q 0 (.q 1 (.q 2 (.q 3 (.q 4 (.q 5 (.q 6 (.q 7 (.q 8 (.q 9 (.r (.q 10 (.done []))))))))))))) [10] (by decide +kernel) ?_) | (refine D_ev rfl (Ev_loadH1 rfl (hbx 1 _ rfl)) rfl rfl ?_) | (refine D_ev rfl (Ev_loadH1 rfl (hle1 _ _ _ (hM 0 _ rfl))) rfl rfl ?_) | (refine D_ev rfl (Ev_loadH1 rfl (hle1 _ _ _ (hcy 0 _ rfl))) rfl rfl ?_) | (refine D_ev rfl (Ev_sub rfl rfl (wi64 (by omega))) rfl rfl ?_; rw [hj1]) | (refine O_ef rfl (Ef_call (I := []) WideF.wide (hpf _ hle1) ⟨rfl, rfl, trivial⟩ rfl ?_); rintro v H2 I2 hle2 ⟨rfl, rfl⟩) | (refine O_ef rfl (Ef_call (I := []) WideF.wide (hp1 _ (hle1.trans hle2)) ⟨rfl, rfl, trivial⟩ rfl ?_); rintro v H3 I3 hle3 ⟨rfl, rfl⟩) | (refine O_ev WideF.wide rfl (Ev_loadH1 rfl (hle2 _ _ _ (hbx 2 _ rfl))) rfl rfl ?_) | refine O_nil ?_ | refine A_seq ?_ | refine A_region ?_ | refine A_skip ?_ | refine A_ret ?_ | (show drJ _ _ _ _ _ _ _ (.q _ _) _; refine D_q rfl ?_) | (show drJ _ _ _ _ _ _ _ (.r _) _; refine D_r ?_; simp only [List.cons_append, List.nil_append]) | (show drQ _ _ _ _ _ _; first | refine D_ev rfl (Ev_pure rfl) rfl rfl ?_ | (show drQ _ _ _ ⟨_, .indexAddr _ _ _, _, _, _, _⟩ _ _; refine D_ev rfl (Ev_indexAddr rfl rfl (by omega) (by omega)) rfl rfl ?_) | (show drQ _ _ _ ⟨_, .fieldAddr _ _ _, _, _, _, _⟩ _ _; refine D_ev rfl (Ev_fieldAddr rfl rfl rfl) rfl rfl ?_) | (show drQ _ _ _ ⟨_, .nilCheck _, _, _, _, _⟩ _ _; refine D_ev rfl (Ev_nilCheck rfl) rfl rfl ?_)) | (show opsA _ _ _ _ _ _ _; first | (refine O_split rfl rfl (fun h => ?_) (fun h => ?_) <;> try (exfalso; omega)) | refine O_ev WideF.wide rfl (Ev_pure rfl) rfl rfl ?_ | (show opsA _ _ _ _ (⟨_, .fieldAddr _ _ _, _, _, _, _⟩ :: _) _ _; refine O_ev WideF.wide rfl (Ev_fieldAddr rfl rfl rfl) rfl rfl ?_) | (show opsA _ _ _ _ (⟨_, .call _, _, _, _, _⟩ :: _) _ _; (refine O_f1 (O_ef rfl (Ef_appendR WideF.wide rfl rfl rfl rfl rfl (by simp) (by simp) rfl ?_)); intro a cp)) | (show opsA _ _ _ _ (⟨_, .buildSlice _ _ _, _, _, _, _⟩ :: _) _ _; (refine O_ef rfl (Ef_build11 WideF.wide rfl rfl rfl ?_); intro b)) | (show opsA _ _ _ _ (⟨_, .unOp _ _ _, _, _, _, _⟩ :: _) _ _; refine O_ev WideF.wide rfl (Ev_notb rfl) rfl rfl ?_) | refine O_skip WideF.wide rfl rfl rfl ?_) | (show wpA _ _ _ (.cond _ _ _) _ _ _ _; first | (refine A_if rfl (fun h => ?_) (fun h => ?_) <;> try (exfalso; omega)) | refine A_iftrue rfl ?_ | refine A_iffalse rfl ?_))
            all_goals first
              | (exfalso; omega)
              | (exfalso; exact absurd trivial (by assumption))
              | (exfalso; contradiction)
              | exact End_row (Ret1 rfl rfl) (irow_one [z1]) fun H' hle hr => ⟨_, _, _, rfl, hr, rfl⟩
        · rw [if_neg h1, Option.toList_none]
          by_cases h2 : e2 = 0
          · subst h2
            rw [if_pos rfl]
            dsimp only
            by_cases hc : digT f z2 false = s ∧ (k = -2 ∨ 1 ≤ z2) ∧ z2 ∉ ([] : List Int)
            · rw [if_pos hc]
              obtain ⟨hc1, hc2, hc3⟩ := hc
              refine Fn_of _ _ Tryz.func68 rfl Tryz.ntmps68 rfl fun c => ?_
              refine A_nilrow 1 ?_
              repeat' (first | refine O_nil ?_ | refine A_seq ?_ | refine A_region ?_ | (show opsA _ _ _ _ _ _ _; first | refine O_ev WideF.wide rfl (Ev_pure rfl) rfl rfl ?_ | (show opsA _ _ _ _ (⟨_, .box _ _, _, _, _, _⟩ :: _) _ _; (refine O_ef rfl (Ef_boxa WideF.wide rfl rfl ?_); intro b))))
              refine A_freezeBox (by intro u hu; simp at hu; rcases hu with rfl | rfl | rfl <;> rfl) ?_
              intro H1 hle1 hbx
              repeat' (first | (show drJ _ _ _ _ _ _ _ (.done _) _; refine D_done ?_; rw [List.append_nil]) | (refine A_drawM WideF.wide (.q 0 (.q 1 (.q 2 (.q 3 (.q 4 (.q 5 (.q 6 (.q 7 (.q 8 (.q 9 (.r (.q 10 (.done []))))))))))))) [10] (by decide +kernel) ?_) | (refine D_ev rfl (Ev_loadH1 rfl (hbx 1 _ rfl)) rfl rfl ?_) | (refine D_ev rfl (Ev_loadH1 rfl (hle1 _ _ _ (hM 0 _ rfl))) rfl rfl ?_) | (refine D_ev rfl (Ev_loadH1 rfl (hle1 _ _ _ (hcy 0 _ rfl))) rfl rfl ?_) | (refine D_ev rfl (Ev_sub rfl rfl (wi64 (by omega))) rfl rfl ?_; rw [hj1]) | (refine O_ef rfl (Ef_call (I := []) WideF.wide (hpf _ hle1) ⟨rfl, rfl, trivial⟩ rfl ?_); rintro v H2 I2 hle2 ⟨rfl, rfl⟩) | (refine O_ef rfl (Ef_call (I := []) WideF.wide (hp1 _ (hle1.trans hle2)) ⟨rfl, rfl, trivial⟩ rfl ?_); rintro v H3 I3 hle3 ⟨rfl, rfl⟩) | (refine O_ev WideF.wide rfl (Ev_loadH1 rfl (hle3 _ _ _ (hle2 _ _ _ (hbx 2 _ rfl)))) rfl rfl ?_) | (refine O_ef rfl (Ef_call (I := []) WideF.wide (hdg _ ((hle1.trans hle2).trans hle3) z2 false) ⟨rfl, rfl, rfl, trivial⟩ rfl ?_); rintro v H4 I4 hle4 ⟨rfl, rfl⟩) | (refine O_ef rfl (Ef_call0 WideF.wide (hci _ _ _ _ [] z2 (by simp)) ⟨rfl, rfl, trivial⟩ rfl ?_); rintro v H5 I5 hle5 ⟨rfl, rfl, rfl⟩) | refine O_nil ?_ | refine A_seq ?_ | refine A_region ?_ | refine A_skip ?_ | refine A_ret ?_ | (show drJ _ _ _ _ _ _ _ (.q _ _) _; refine D_q rfl ?_) | (show drJ _ _ _ _ _ _ _ (.r _) _; refine D_r ?_; simp only [List.cons_append, List.nil_append]) | (show drQ _ _ _ _ _ _; first | refine D_ev rfl (Ev_pure rfl) rfl rfl ?_ | (show drQ _ _ _ ⟨_, .indexAddr _ _ _, _, _, _, _⟩ _ _; refine D_ev rfl (Ev_indexAddr rfl rfl (by omega) (by omega)) rfl rfl ?_) | (show drQ _ _ _ ⟨_, .fieldAddr _ _ _, _, _, _, _⟩ _ _; refine D_ev rfl (Ev_fieldAddr rfl rfl rfl) rfl rfl ?_) | (show drQ _ _ _ ⟨_, .nilCheck _, _, _, _, _⟩ _ _; refine D_ev rfl (Ev_nilCheck rfl) rfl rfl ?_)) | (show opsA _ _ _ _ _ _ _; first | (refine O_split rfl rfl (fun h => ?_) (fun h => ?_) <;> try (exfalso; omega)) | refine O_ev WideF.wide rfl (Ev_pure rfl) rfl rfl ?_ | (show opsA _ _ _ _ (⟨_, .fieldAddr _ _ _, _, _, _, _⟩ :: _) _ _; refine O_ev WideF.wide rfl (Ev_fieldAddr rfl rfl rfl) rfl rfl ?_) | (show opsA _ _ _ _ (⟨_, .call _, _, _, _, _⟩ :: _) _ _; (refine O_f1 (O_ef rfl (Ef_appendR WideF.wide rfl rfl rfl rfl rfl (by simp) (by simp) rfl ?_)); intro a cp)) | (show opsA _ _ _ _ (⟨_, .buildSlice _ _ _, _, _, _, _⟩ :: _) _ _; (refine O_ef rfl (Ef_build11 WideF.wide rfl rfl rfl ?_); intro b)) | (show opsA _ _ _ _ (⟨_, .binOp _ _ _ _ _, _, _, _, _⟩ :: _) _ _; refine O_ev WideF.wide rfl (Ev_seql rfl rfl) rfl rfl ?_) | (show opsA _ _ _ _ (⟨_, .unOp _ _ _, _, _, _, _⟩ :: _) _ _; refine O_ev WideF.wide rfl (Ev_not rfl) rfl rfl ?_) | refine O_skip WideF.wide rfl rfl rfl ?_) | (show wpA _ _ _ (.cond _ _ _) _ _ _ _; first | (refine A_if rfl (fun h => ?_) (fun h => ?_) <;> try (exfalso; omega)) | refine A_iffalse rfl ?_))
              all_goals first
                | (exfalso; omega)
                | (exfalso; exact absurd trivial (by assumption))
                | (exfalso; contradiction)
                | exact End_row (Ret1 rfl rfl) (irow_one [z2]) fun H' hle hr => ⟨_, _, _, rfl, hr, rfl⟩
            · rw [if_neg hc, List.append_nil]
              refine Fn_of _ _ Tryz.func68 rfl Tryz.ntmps68 rfl fun c => ?_
              refine A_nilrow 1 ?_
              repeat' (first | refine O_nil ?_ | refine A_seq ?_ | refine A_region ?_ | (show opsA _ _ _ _ _ _ _; first | refine O_ev WideF.wide rfl (Ev_pure rfl) rfl rfl ?_ | (show opsA _ _ _ _ (⟨_, .box _ _, _, _, _, _⟩ :: _) _ _; (refine O_ef rfl (Ef_boxa WideF.wide rfl rfl ?_); intro b))))
              refine A_freezeBox (by intro u hu; simp at hu; rcases hu with rfl | rfl | rfl <;> rfl) ?_
              intro H1 hle1 hbx
              repeat' (first | (show drJ _ _ _ _ _ _ _ (.done _) _; refine D_done ?_; rw [List.append_nil]) | (refine A_drawM WideF.wide (.q 0 (.q 1 (.q 2 (.q 3 (.q 4 (.q 5 (.q 6 (.q 7 (.q 8 (.q 9 (.r (.q 10 (.done []))))))))))))) [10] (by decide +kernel) ?_) | (refine D_ev rfl (Ev_loadH1 rfl (hbx 1 _ rfl)) rfl rfl ?_) | (refine D_ev rfl (Ev_loadH1 rfl (hle1 _ _ _ (hM 0 _ rfl))) rfl rfl ?_) | (refine D_ev rfl (Ev_loadH1 rfl (hle1 _ _ _ (hcy 0 _ rfl))) rfl rfl ?_) | (refine D_ev rfl (Ev_sub rfl rfl (wi64 (by omega))) rfl rfl ?_; rw [hj1]) | (refine O_ef rfl (Ef_call (I := []) WideF.wide (hpf _ hle1) ⟨rfl, rfl, trivial⟩ rfl ?_); rintro v H2 I2 hle2 ⟨rfl, rfl⟩) | (refine O_ef rfl (Ef_call (I := []) WideF.wide (hp1 _ (hle1.trans hle2)) ⟨rfl, rfl, trivial⟩ rfl ?_); rintro v H3 I3 hle3 ⟨rfl, rfl⟩) | (refine O_ev WideF.wide rfl (Ev_loadH1 rfl (hle3 _ _ _ (hle2 _ _ _ (hbx 2 _ rfl)))) rfl rfl ?_) | (refine O_ef rfl (Ef_call (I := []) WideF.wide (hdg _ ((hle1.trans hle2).trans hle3) z2 false) ⟨rfl, rfl, rfl, trivial⟩ rfl ?_); rintro v H4 I4 hle4 ⟨rfl, rfl⟩) | (refine O_ef rfl (Ef_call0 WideF.wide (hci _ _ _ _ [] z2 (by simp)) ⟨rfl, rfl, trivial⟩ rfl ?_); rintro v H5 I5 hle5 ⟨rfl, rfl, rfl⟩) | refine O_nil ?_ | refine A_seq ?_ | refine A_region ?_ | refine A_skip ?_ | refine A_ret ?_ | (show drJ _ _ _ _ _ _ _ (.q _ _) _; refine D_q rfl ?_) | (show drJ _ _ _ _ _ _ _ (.r _) _; refine D_r ?_; simp only [List.cons_append, List.nil_append]) | (show drQ _ _ _ _ _ _; first | refine D_ev rfl (Ev_pure rfl) rfl rfl ?_ | (show drQ _ _ _ ⟨_, .indexAddr _ _ _, _, _, _, _⟩ _ _; refine D_ev rfl (Ev_indexAddr rfl rfl (by omega) (by omega)) rfl rfl ?_) | (show drQ _ _ _ ⟨_, .fieldAddr _ _ _, _, _, _, _⟩ _ _; refine D_ev rfl (Ev_fieldAddr rfl rfl rfl) rfl rfl ?_) | (show drQ _ _ _ ⟨_, .nilCheck _, _, _, _, _⟩ _ _; refine D_ev rfl (Ev_nilCheck rfl) rfl rfl ?_)) | (show opsA _ _ _ _ _ _ _; first | (refine O_split rfl rfl (fun h => ?_) (fun h => ?_) <;> try (exfalso; omega)) | refine O_ev WideF.wide rfl (Ev_pure rfl) rfl rfl ?_ | (show opsA _ _ _ _ (⟨_, .fieldAddr _ _ _, _, _, _, _⟩ :: _) _ _; refine O_ev WideF.wide rfl (Ev_fieldAddr rfl rfl rfl) rfl rfl ?_) | (show opsA _ _ _ _ (⟨_, .call _, _, _, _, _⟩ :: _) _ _; (refine O_f1 (O_ef rfl (Ef_appendR WideF.wide rfl rfl rfl rfl rfl (by simp) (by simp) rfl ?_)); intro a cp)) | (show opsA _ _ _ _ (⟨_, .buildSlice _ _ _, _, _, _, _⟩ :: _) _ _; (refine O_ef rfl (Ef_build11 WideF.wide rfl rfl rfl ?_); intro b)) | (show opsA _ _ _ _ (⟨_, .binOp _ _ _ _ _, _, _, _, _⟩ :: _) _ _; refine O_ev WideF.wide rfl (Ev_seql rfl rfl) rfl rfl ?_) | (show opsA _ _ _ _ (⟨_, .unOp _ _ _, _, _, _, _⟩ :: _) _ _; refine O_ev WideF.wide rfl (Ev_not rfl) rfl rfl ?_) | refine O_skip WideF.wide rfl rfl rfl ?_) | (show wpA _ _ _ (.cond _ _ _) _ _ _ _; first | (refine A_if rfl (fun h => ?_) (fun h => ?_) <;> try (exfalso; omega)) | refine A_iffalse rfl ?_))
              all_goals first
                | (exfalso; omega)
                | (exfalso; exact absurd trivial (by assumption))
                | (exfalso; exact hc ⟨by assumption, by omega, by assumption⟩)
                | (exfalso; contradiction)
                | exact End_row (Ret1 rfl rfl) (irow_one []) fun H' hle hr => ⟨_, _, _, rfl, hr, rfl⟩
          · rw [if_neg h2, List.append_nil]
            refine Fn_of _ _ Tryz.func68 rfl Tryz.ntmps68 rfl fun c => ?_
            refine A_nilrow 1 ?_
            repeat' (first | refine O_nil ?_ | refine A_seq ?_ | refine A_region ?_ | (show opsA _ _ _ _ _ _ _; first | refine O_ev WideF.wide rfl (Ev_pure rfl) rfl rfl ?_ | (show opsA _ _ _ _ (⟨_, .box _ _, _, _, _, _⟩ :: _) _ _; (refine O_ef rfl (Ef_boxa WideF.wide rfl rfl ?_); intro b))))
            refine A_freezeBox (by intro u hu; simp at hu; rcases hu with rfl | rfl | rfl <;> rfl) ?_
            intro H1 hle1 hbx
            repeat' (first | (show drJ _ _ _ _ _ _ _ (.done _) _; refine D_done ?_; rw [List.append_nil]) | (refine A_drawM WideF.wide (.q 0 (.q 1 (.q 2 (.q 3 (.q 4 (.q 5 (.q 6 (.q 7 (.q 8 (.q 9 (.r (.q 10 (.done []))))))))))))) [10] (by decide +kernel) ?_) | (refine D_ev rfl (Ev_loadH1 rfl (hbx 1 _ rfl)) rfl rfl ?_) | (refine D_ev rfl (Ev_loadH1 rfl (hle1 _ _ _ (hM 0 _ rfl))) rfl rfl ?_) | (refine D_ev rfl (Ev_loadH1 rfl (hle1 _ _ _ (hcy 0 _ rfl))) rfl rfl ?_) | (refine D_ev rfl (Ev_sub rfl rfl (wi64 (by omega))) rfl rfl ?_; rw [hj1]) | (refine O_ef rfl (Ef_call (I := []) WideF.wide (hpf _ hle1) ⟨rfl, rfl, trivial⟩ rfl ?_); rintro v H2 I2 hle2 ⟨rfl, rfl⟩) | (refine O_ef rfl (Ef_call (I := []) WideF.wide (hp1 _ (hle1.trans hle2)) ⟨rfl, rfl, trivial⟩ rfl ?_); rintro v H3 I3 hle3 ⟨rfl, rfl⟩) | refine O_nil ?_ | refine A_seq ?_ | refine A_region ?_ | refine A_skip ?_ | refine A_ret ?_ | (show drJ _ _ _ _ _ _ _ (.q _ _) _; refine D_q rfl ?_) | (show drJ _ _ _ _ _ _ _ (.r _) _; refine D_r ?_; simp only [List.cons_append, List.nil_append]) | (show drQ _ _ _ _ _ _; first | refine D_ev rfl (Ev_pure rfl) rfl rfl ?_ | (show drQ _ _ _ ⟨_, .indexAddr _ _ _, _, _, _, _⟩ _ _; refine D_ev rfl (Ev_indexAddr rfl rfl (by omega) (by omega)) rfl rfl ?_) | (show drQ _ _ _ ⟨_, .fieldAddr _ _ _, _, _, _, _⟩ _ _; refine D_ev rfl (Ev_fieldAddr rfl rfl rfl) rfl rfl ?_) | (show drQ _ _ _ ⟨_, .nilCheck _, _, _, _, _⟩ _ _; refine D_ev rfl (Ev_nilCheck rfl) rfl rfl ?_)) | (show opsA _ _ _ _ _ _ _; first | (refine O_split rfl rfl (fun h => ?_) (fun h => ?_) <;> try (exfalso; omega)) | refine O_ev WideF.wide rfl (Ev_pure rfl) rfl rfl ?_ | refine O_skip WideF.wide rfl rfl rfl ?_) | (show wpA _ _ _ (.cond _ _ _) _ _ _ _; first | (refine A_if rfl (fun h => ?_) (fun h => ?_) <;> try (exfalso; omega)) | refine A_iffalse rfl ?_))
            all_goals first
              | (exfalso; omega)
              | (exfalso; exact absurd trivial (by assumption))
              | (exfalso; contradiction)
              | exact End_row (Ret1 rfl rfl) (irow_one []) fun H' hle hr => ⟨_, _, _, rfl, hr, rfl⟩
end Go.Proofs.YtaneeaojlkenmaaGreatDoor
