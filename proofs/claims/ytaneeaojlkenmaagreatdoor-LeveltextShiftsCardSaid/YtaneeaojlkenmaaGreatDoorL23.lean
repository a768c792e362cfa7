/-
  The reference's Parse and Used, what they make handed to the caller as its own; a row lent to a callee that makes rows of its own.
-/
import Derived.Test.YtaneeaojlkenmaaGreatDoorL13
namespace Go.Proofs.YtaneeaojlkenmaaGreatDoor
open Go
set_option linter.unusedVariables false
set_option linter.unusedSimpArgs false
def IntsO (l : List Int) (v : Value) (I : Own) : Prop := ∃ a c, v = .slice a l.length c ∧ I = [.row (.slice a l.length c) 1 (l.map irow)]
theorem Fn.loan {P : Program} {f : FuncId} {args : List Value} {H : Hp} {a : Option Addr} {n c k : Nat} {css : List (List Value)} {Q : Value → Own → Prop} (h1 : ∀ cs ∈ css, ∀ u ∈ cs, u.oneCell' = true)
    (h : ∀ H1, HLe H H1 → HRow H1 a n c k css → Fn P f args H1 [] fun v _ I' => Q v I') :
    Fn P f args H [.row (.slice a n c) k css] fun v H' I' => ∃ J, Q v J ∧ H' = H ∧ I' = J ++ [.row (.slice a n c) k css] := by
  intro w hw
  obtain ⟨H1, hle, hr, hh⟩ := Holds.freeze (R := []) hw h1
  have h0 : Holds ⟨w, H1, []⟩ H1 [] w := ⟨hh.mem, Own.ok_nil w, Own.sep_nil, fun b hb => (by cases hb), fun b hb => (by cases hb), ⟨rfl, rfl, rfl, Nat.le_refl _, fun _ _ _ => rfl⟩, fun _ _ _ h => h, fun _ _ _ h => .inl h, fun b o v h1 h2 => absurd (h1.symm.trans h2) (by simp), hh.callee (I := []) (fun b hb => (by cases hb))⟩
  refine (h H1 hle hr w h0).mono ?_
  rintro e w' ⟨v, H', I', rfl, hh', hq⟩
  have hb : ∀ b, b < w.heap.size → w'.heap[b]? = w.heap[b]? := fun b hb => hh'.old.block b hb (fun hm => by cases hm)
  have hge : ∀ b ∈ Own.blocks I', w.heap.size ≤ b := fun b hbb => (hh'.fresh b hbb).elim id (fun hm => by cases hm)
  have hlt : ∀ b ∈ Own.blocks [.row (.slice a n c) k css], b < w.heap.size := Holds.lt hw
  have hblk : Own.blocks (I' ++ [.row (.slice a n c) k css]) = Own.blocks I' ++ Own.blocks [.row (.slice a n c) k css] := Own.blocks_append _ _
  refine ⟨v, H, _, rfl, ⟨?_, ?_, Own.sep_append.2 ⟨hh'.sep, hw.sep, fun b h1 h2 => ?_⟩, fun b hbb o => ?_, fun b hbb => ?_, ⟨hh'.old.os, hh'.old.tape, hh'.old.output, hh'.old.size, fun b hlt _ => hb b hlt⟩, hw.hle, hw.hnew, ?_, hw.gl⟩, I', hq, rfl, rfl⟩
  · intro b o v hv
    have := hw.mem b o v hv
    exact ⟨(cell_same (hb b (Mem.lt hw.mem hv))).trans this.1, this.2⟩
  · intro r hr
    rcases List.mem_append.1 hr with hr | hr
    · exact hh'.own r hr
    · exact Res.ok_of_block (hw.own r hr) fun b hbr => hb b (Res.block_lt (hw.own r hr) b hbr)
  · have := hge b h1
    have := hlt b h2
    omega
  · rw [hblk] at hbb
    rcases List.mem_append.1 hbb with h1 | h1
    · cases hv : H b o with
      | none => rfl
      | some v =>
        have := hge b h1
        have := Mem.lt hw.mem hv
        omega
    · exact hw.apart b h1 o
  · rw [hblk] at hbb
    rcases List.mem_append.1 hbb with h1 | h1
    · exact .inl (hge b h1)
    · exact hw.fresh b h1
  · intro b o v hv hn
    rw [hb b (Mem.lt hw.mem hv)]
    exact hw.thaw b o v hv hn
attribute [local irreducible] wpA opsA drJ drQ drE Ef Ev Shift Fn
set_option maxRecDepth 100000 in
set_option maxHeartbeats 2000000 in
theorem rParse_own {H : Hp} {s : List UInt8} (hs : s.length < 1099511627776) : Fn Tryz.prog 15 [sv s] H [] fun v _ I => ParseO s v I := by
  have hv := fun Hx => rFirst_fn (H := Hx) hs
  have hcl := fun Hx => rcontrol_fn (H := Hx) hs
  by_cases h1 : 64 < s.length
  · have e : tplE s = ([], 10) := by rw [tplE_def, if_pos h1]
    unfold ParseO
    rw [e]
    refine Fn_of _ _ Tryz.func15 rfl Tryz.ntmps15 rfl fun c => ?_
    repeat' (first | refine O_nil ?_ | refine A_seq ?_ | refine A_region ?_ | refine A_ret ?_ | refine A_block ?_ | (show opsA _ _ _ _ _ _ _; first | refine O_ev WideF.wide rfl (Ev_pure rfl) rfl rfl ?_ | (show opsA _ _ _ _ (⟨_, .call _, _, _, _, _⟩ :: _) _ _; refine O_ev WideF.wide rfl (Ev_slen rfl) rfl rfl ?_)) | (show wpA _ _ _ (.cond _ _ _) _ _ _ _; (refine A_if rfl (fun h => ?_) (fun h => ?_) <;> try (exfalso; omega))))
    all_goals first
      | (exfalso; omega)
      | exact End_nilrow 3 (Ret2 rfl rfl rfl) ⟨none, 0, rfl, rfl⟩
  · by_cases h2 : valid s
    · by_cases h3 : control s
      · have e : tplE s = ([], 5) := by rw [tplE_def, if_neg h1, if_neg (fun h => h h2), if_pos h3]
        unfold ParseO
        rw [e]
        simp only [decide_eq_true h3] at hcl
        refine Fn_of _ _ Tryz.func15 rfl Tryz.ntmps15 rfl fun c => ?_
        repeat' (first | (refine O_ef rfl (Ef_call (I := []) WideF.wide (hv _) ⟨rfl, trivial⟩ rfl ?_); rintro v H1 I1 hle1 ⟨⟨r, rfl, hr⟩, rfl⟩); have hr1 : r < 0 := (by have : ¬ 0 ≤ r := fun h => hr.1 h h2; omega) | (refine O_ef rfl (Ef_callp WideF.wide (hcl _) ⟨rfl, trivial⟩ rfl ?_)) | refine O_nil ?_ | refine A_seq ?_ | refine A_region ?_ | refine A_ret ?_ | refine A_block ?_ | (show opsA _ _ _ _ _ _ _; first | refine O_ev WideF.wide rfl (Ev_pure rfl) rfl rfl ?_ | (show opsA _ _ _ _ (⟨_, .call _, _, _, _, _⟩ :: _) _ _; refine O_ev WideF.wide rfl (Ev_slen rfl) rfl rfl ?_)) | (show wpA _ _ _ (.cond _ _ _) _ _ _ _; first | (refine A_if rfl (fun h => ?_) (fun h => ?_) <;> try (exfalso; omega)) | refine A_iftrue rfl ?_))
        all_goals first
          | (exfalso; omega)
          | exact End_nilrow 3 (Ret2 rfl rfl rfl) ⟨none, 0, rfl, rfl⟩
      · simp only [decide_eq_false h3] at hcl
        refine Fn_of _ _ Tryz.func15 rfl Tryz.ntmps15 rfl fun c => ?_
        repeat' (first | (refine O_ef rfl (Ef_call (I := []) WideF.wide (hv _) ⟨rfl, trivial⟩ rfl ?_); rintro v H1 I1 hle1 ⟨⟨r, rfl, hr⟩, rfl⟩); have hr1 : r < 0 := (by have : ¬ 0 ≤ r := fun h => hr.1 h h2; omega) | (refine O_ef rfl (Ef_callp WideF.wide (hcl _) ⟨rfl, trivial⟩ rfl ?_)) | refine O_nil ?_ | refine A_seq ?_ | refine A_region ?_ | refine A_skip ?_ | refine A_block ?_ | (show opsA _ _ _ _ _ _ _; first | refine O_ev WideF.wide rfl (Ev_pure rfl) rfl rfl ?_ | (show opsA _ _ _ _ (⟨_, .call _, _, _, _, _⟩ :: _) _ _; refine O_ev WideF.wide rfl (Ev_slen rfl) rfl rfl ?_)) | (show wpA _ _ _ (.cond _ _ _) _ _ _ _; first | (refine A_if rfl (fun h => ?_) (fun h => ?_) <;> try (exfalso; omega)) | refine A_iffalse rfl ?_))
        all_goals try (exfalso; omega)
        refine A_nilrow 3 ?_
        refine A_loopu (fun m st => ∃ (i : Nat) (lit : List UInt8) (acc : List Pt) (pl : Int) (a : Option Addr) (cq : Nat) (H2 : Hp), m = s.length - i ∧ RefAt s i lit acc pl ∧ st = ⟨88, [(0, sv s), (4, .slice a acc.length cq), (5, sv lit), (6, .int .i64 pl), (7, .int .i64 i)], H2, [.row (.slice a acc.length cq) 3 (acc.map prow)], [], []⟩) ?_ ?_
        · exact Shift.to ⟨_, 0, [], [], 0, none, 0, _, rfl, ⟨by omega, by simp, by simp, rfl, by omega, by rw [List.drop_zero]⟩, rfl⟩ ⟨rfl, rfl, rfl, ⟨rfl, rfl, rfl, rfl, rfl, trivial⟩, Own.sub_refl _⟩
        · rintro m st ⟨i, lit, acc, pl, a, cq, H2, rfl, ⟨g1, g2, g3, g4, g5, g6⟩, rfl⟩
          by_cases hlt : i < s.length
          · obtain ⟨x, hx, hxi, hbt⟩ := drop_at hlt
            by_cases hc : x = 37
            · subst hc
              have hbt : bat s (i : Int) = 37 := hbt
              rw [hx] at g6
              by_cases hsg : i + 1 < s.length ∧ bat s (i + 1 : Nat) = 37
              · have hb1 : bat s ((i : Int) + 1) = 37 := by rw [show (i : Int) + 1 = ((i + 1 : Nat) : Int) by omega]; exact hsg.2
                have hlt1 := hsg.1
                have hq : pct (s.drop (i + 1)) = .sign := by
                  obtain ⟨y, hy, _, hb⟩ := drop_at hsg.1
                  rw [hy, pct_cons, if_pos]
                  exact UInt8.toNat_inj.1 (by rw [hsg.2] at hb; show y.toNat = 37; omega)
                rw [scnS_sign hq, List.drop_drop] at g6
                repeat' (first | (refine O_ev WideF.wide rfl (Ev_scat rfl rfl (by simp; omega)) rfl rfl ?_) | refine O_nil ?_ | refine A_seq ?_ | refine A_region ?_ | refine A_skip ?_ | refine A_block ?_ | (show opsA _ _ _ _ _ _ _; first | (refine O_split rfl rfl (fun h => ?_) (fun h => ?_) <;> try (exfalso; omega)) | refine O_ev WideF.wide rfl (Ev_pure rfl) rfl rfl ?_ | (show opsA _ _ _ _ (⟨_, .call _, _, _, _, _⟩ :: _) _ _; refine O_ev WideF.wide rfl (Ev_slen rfl) rfl rfl ?_) | (show opsA _ _ _ _ (⟨_, .binOp _ _ _ _ _, _, _, _, _⟩ :: _) _ _; refine O_ev WideF.wide rfl (Ev_add rfl rfl (wi64 (by omega))) rfl rfl ?_) | (show opsA _ _ _ _ (⟨_, .index _ _ _, _, _, _, _⟩ :: _) _ _; refine O_ev WideF.wide rfl (Ev_sindex rfl rfl (by omega) (by omega)) rfl rfl ?_)) | (show wpA _ _ _ (.exit _) _ _ _ _; refine A_exit rfl ?_) | (show wpA _ _ _ (.cond _ _ _) _ _ _ _; (refine A_if rfl (fun h => ?_) (fun h => ?_) <;> try (exfalso; omega))))
                all_goals try (exfalso; omega)
                refine Shift.to ⟨_, ?_, i + 2, lit ++ [37], acc, pl, a, cq, _, rfl, ⟨by omega, by simp; omega, by omega, g4, by omega, g6⟩, rfl⟩ ⟨rfl, rfl, rfl, ⟨rfl, rfl, rfl, rfl, rfl, trivial⟩, Own.sub_refl _⟩
                omega
              · have hp := fun Hx => rplace_fn (H := Hx) (s := s) (by omega) hxi hsg
                have hns := pct_nosign hlt hxi hsg
                rw [show ((i + 1 : Nat) : Int) = (i : Int) + 1 by omega] at hsg
                unfold plcV plcR at hp
                cases hq : pct (s.drop (i + 1)) with
                | sign => exact absurd hq hns
                | bad =>
                  simp only [hq] at hp
                  rw [scnS_bad hq] at g6
                  have e : tplE s = ([], 14) := by rw [tplE_def, if_neg h1, if_neg (fun h => h h2), if_neg h3, ← g6]
                  unfold ParseO
                  rw [e]
                  repeat' (first | (refine O_ef rfl (Ef_call (I := []) WideF.wide (hp _) ⟨rfl, rfl, trivial⟩ rfl ?_); rintro v H3 I3 hle3 ⟨rfl, rfl⟩) | refine O_nil ?_ | refine A_seq ?_ | refine A_region ?_ | refine A_skip ?_ | refine A_ret ?_ | refine A_block ?_ | (show opsA _ _ _ _ _ _ _; first | (refine O_split rfl rfl (fun h => ?_) (fun h => ?_) <;> try (exfalso; omega)) | refine O_ev WideF.wide rfl (Ev_pure rfl) rfl rfl ?_ | (show opsA _ _ _ _ (⟨_, .call _, _, _, _, _⟩ :: _) _ _; refine O_ev WideF.wide rfl (Ev_slen rfl) rfl rfl ?_) | (show opsA _ _ _ _ (⟨_, .binOp _ _ _ _ _, _, _, _, _⟩ :: _) _ _; refine O_ev WideF.wide rfl (Ev_add rfl rfl (wi64 (by omega))) rfl rfl ?_) | (show opsA _ _ _ _ (⟨_, .index _ _ _, _, _, _, _⟩ :: _) _ _; refine O_ev WideF.wide rfl (Ev_sindex rfl rfl (by omega) (by omega)) rfl rfl ?_) | (show opsA _ _ _ _ (⟨_, .alloc _, _, _, _, _⟩ :: _) _ _; (refine O_ef rfl (Ef_alloc WideF.wide rfl ?_); intro b)) | (show opsA _ _ _ _ (⟨_, .store _ _ _, _, _, _, _⟩ :: _) _ _; refine O_ef rfl (Ef_storew WideF.wide rfl rfl rfl rfl rfl ?_)) | refine O_skip WideF.wide rfl rfl rfl ?_) | (show wpA _ _ _ (.cond _ _ _) _ _ _ _; first | (refine A_if rfl (fun h => ?_) (fun h => ?_) <;> try (exfalso; omega)) | refine A_iffalse rfl ?_))
                  all_goals first
                    | (exfalso; omega)
                    | exact End_nilrow 3 (Ret2 rfl rfl rfl) ⟨none, 0, rfl, rfl⟩
                | place p n =>
                  simp only [hq] at hp
                  rw [scnS_place hq, List.drop_drop] at g6
                  obtain ⟨p1, p2, p3, p4, p5, p6⟩ := pct_place hq
                  rw [List.length_drop] at p1
                  have hpl1 : places [p] = 1 := by unfold places; rw [List.filter_cons, if_pos (by simp; omega)]; rfl
                  by_cases hlit : lit = []
                  · subst hlit
                    have hfl : fls acc [] = acc := by unfold fls; rw [if_pos rfl]
                    rw [hfl] at g6
                    repeat' (first | (refine O_ef rfl (Ef_call (I := []) WideF.wide (hp _) ⟨rfl, rfl, trivial⟩ rfl ?_); rintro v H3 I3 hle3 ⟨rfl, rfl⟩) | refine O_nil ?_ | refine A_seq ?_ | refine A_region ?_ | refine A_skip ?_ | refine A_block ?_ | (show opsA _ _ _ _ _ _ _; first | (refine O_split rfl rfl (fun h => ?_) (fun h => ?_) <;> try (exfalso; omega)) | refine O_ev WideF.wide rfl (Ev_pure rfl) rfl rfl ?_ | (show opsA _ _ _ _ (⟨_, .load _ _, _, _, _, _⟩ :: _) _ _; first | refine O_ev WideF.wide rfl (Ev_loadB (i := 0) rfl rfl rfl) rfl rfl ?_ | refine O_ev WideF.wide rfl (Ev_loadB (i := 1) rfl rfl rfl) rfl rfl ?_) | (show opsA _ _ _ _ (⟨_, .call _, _, _, _, _⟩ :: _) _ _; first | refine O_ev WideF.wide rfl (Ev_slen rfl) rfl rfl ?_ | (refine O_f1 (O_ef rfl (Ef_appendR WideF.wide rfl rfl rfl rfl rfl (by simp; omega) (by simp; omega) rfl ?_)); intro a cp) | (refine O_f2 (O_ef rfl (Ef_appendR WideF.wide rfl rfl rfl rfl rfl (by simp; omega) (by simp; omega) rfl ?_)); intro a cp)) | (show opsA _ _ _ _ (⟨_, .buildSlice _ _ _, _, _, _, _⟩ :: _) _ _; (refine O_ef rfl (Ef_build1a WideF.wide rfl rfl rfl rfl rfl ?_); intro b)) | (show opsA _ _ _ _ (⟨_, .binOp _ _ _ _ _, _, _, _, _⟩ :: _) _ _; first | refine O_ev WideF.wide rfl (Ev_add rfl rfl (wi64 (by omega))) rfl rfl ?_ | refine O_ev WideF.wide rfl (Ev_sneq rfl rfl) rfl rfl ?_) | (show opsA _ _ _ _ (⟨_, .index _ _ _, _, _, _, _⟩ :: _) _ _; refine O_ev WideF.wide rfl (Ev_sindex rfl rfl (by omega) (by omega)) rfl rfl ?_) | (show opsA _ _ _ _ (⟨_, .build _ _, _, _, _, _⟩ :: _) _ _; refine O_ev WideF.wide rfl (Ev_build (vs := [(_, _)]) ⟨rfl, rfl, trivial⟩ rfl) rfl rfl ?_) | (show opsA _ _ _ _ (⟨_, .alloc _, _, _, _, _⟩ :: _) _ _; (refine O_ef rfl (Ef_alloc WideF.wide rfl ?_); intro b)) | (show opsA _ _ _ _ (⟨_, .store _ _ _, _, _, _, _⟩ :: _) _ _; refine O_ef rfl (Ef_storew WideF.wide rfl rfl rfl rfl rfl ?_))) | (show wpA _ _ _ (.cond _ _ _) _ _ _ _; (refine A_if rfl (fun h => ?_) (fun h => ?_) <;> try (exfalso; omega))))
                    all_goals try (exfalso; omega)
                    all_goals try (exfalso; exact absurd (rfl : ([] : List UInt8) = []) (by assumption))
                    rw [snoc_row p rfl, List.length_map]
                    refine Shift.to ⟨_, ?_, i + (n + 1), [], acc ++ [p], pl + 1, _, _, _, rfl, ⟨by omega, by simp, by simp; omega, ?_, by omega, ?_⟩, rfl⟩ ⟨rfl, rfl, rfl, ⟨rfl, rfl, rfl, rfl, rfl, trivial⟩, Own.subi [0] (by decide) rfl rfl⟩
                    · omega
                    · rw [places_append, hpl1, g4]; omega
                    · rw [show i + (n + 1) = i + 1 + n by omega]; exact g6
                  · have hfl : fls acc lit = acc ++ [⟨lit, 0, false⟩] := by unfold fls; rw [if_neg hlit]
                    rw [hfl] at g6
                    repeat' (first | (refine O_ef rfl (Ef_call (I := []) WideF.wide (hp _) ⟨rfl, rfl, trivial⟩ rfl ?_); rintro v H3 I3 hle3 ⟨rfl, rfl⟩) | refine O_nil ?_ | refine A_seq ?_ | refine A_region ?_ | refine A_skip ?_ | refine A_block ?_ | (show opsA _ _ _ _ _ _ _; first | (refine O_split rfl rfl (fun h => ?_) (fun h => ?_) <;> try (exfalso; omega)) | refine O_ev WideF.wide rfl (Ev_pure rfl) rfl rfl ?_ | (show opsA _ _ _ _ (⟨_, .load _ _, _, _, _, _⟩ :: _) _ _; first | refine O_ev WideF.wide rfl (Ev_loadB (i := 0) rfl rfl rfl) rfl rfl ?_ | refine O_ev WideF.wide rfl (Ev_loadB (i := 1) rfl rfl rfl) rfl rfl ?_) | (show opsA _ _ _ _ (⟨_, .call _, _, _, _, _⟩ :: _) _ _; first | refine O_ev WideF.wide rfl (Ev_slen rfl) rfl rfl ?_ | (refine O_f1 (O_ef rfl (Ef_appendR WideF.wide rfl rfl rfl rfl rfl (by simp; omega) (by simp; omega) rfl ?_)); intro a cp) | (refine O_f2 (O_ef rfl (Ef_appendR WideF.wide rfl rfl rfl rfl rfl (by simp; omega) (by simp; omega) rfl ?_)); intro a cp)) | (show opsA _ _ _ _ (⟨_, .buildSlice _ _ _, _, _, _, _⟩ :: _) _ _; (refine O_ef rfl (Ef_build1a WideF.wide rfl rfl rfl rfl rfl ?_); intro b)) | (show opsA _ _ _ _ (⟨_, .binOp _ _ _ _ _, _, _, _, _⟩ :: _) _ _; first | refine O_ev WideF.wide rfl (Ev_add rfl rfl (wi64 (by omega))) rfl rfl ?_ | refine O_ev WideF.wide rfl (Ev_sneq rfl rfl) rfl rfl ?_) | (show opsA _ _ _ _ (⟨_, .index _ _ _, _, _, _, _⟩ :: _) _ _; refine O_ev WideF.wide rfl (Ev_sindex rfl rfl (by omega) (by omega)) rfl rfl ?_) | (show opsA _ _ _ _ (⟨_, .build _ _, _, _, _, _⟩ :: _) _ _; refine O_ev WideF.wide rfl (Ev_build (vs := [(_, _)]) ⟨rfl, rfl, trivial⟩ rfl) rfl rfl ?_) | (show opsA _ _ _ _ (⟨_, .alloc _, _, _, _, _⟩ :: _) _ _; (refine O_ef rfl (Ef_alloc WideF.wide rfl ?_); intro b)) | (show opsA _ _ _ _ (⟨_, .store _ _ _, _, _, _, _⟩ :: _) _ _; refine O_ef rfl (Ef_storew WideF.wide rfl rfl rfl rfl rfl ?_))) | (show wpA _ _ _ (.cond _ _ _) _ _ _ _; (refine A_if rfl (fun h => ?_) (fun h => ?_) <;> try (exfalso; omega))))
                    all_goals try (exfalso; omega)
                    all_goals try (exfalso; exact absurd hlit (by assumption))
                    rw [fill_lit, snoc_row ⟨lit, 0, false⟩ rfl, snoc_row p rfl, List.length_map]
                    refine Shift.to ⟨_, ?_, i + (n + 1), [], acc ++ [⟨lit, 0, false⟩] ++ [p], pl + 1, _, _, _, rfl, ⟨by omega, by simp, by simp; omega, ?_, by omega, ?_⟩, rfl⟩ ⟨rfl, rfl, rfl, ⟨rfl, rfl, rfl, rfl, rfl, trivial⟩, Own.subi [0] (by decide) rfl rfl⟩
                    · omega
                    · rw [places_append, places_append, hpl1, g4]
                      have : places [⟨lit, 0, false⟩] = 0 := rfl
                      rw [this]; omega
                    · rw [show i + (n + 1) = i + 1 + n by omega]; exact g6
            · have hbt : ¬ bat s (i : Int) = 37 := fun h => hc (UInt8.toNat_inj.1 (by rw [h] at hbt; show x.toNat = 37; omega))
              rw [hx, scnS_lit hc] at g6
              have hsl : (s.take ((i : Int) + 1).toNat).drop (i : Int).toNat = [x] := by
                rw [show ((i : Int) + 1).toNat = i + 1 by omega, show (i : Int).toNat = i by omega, take_get hxi, List.drop_left' (by rw [List.length_take]; omega)]
              repeat' (first | (refine O_ev WideF.wide rfl (Ev_scat rfl rfl (by rw [hsl]; simp; omega)) rfl rfl ?_; rw [hsl]) | refine O_nil ?_ | refine A_seq ?_ | refine A_region ?_ | refine A_skip ?_ | refine A_block ?_ | (show opsA _ _ _ _ _ _ _; first | refine O_ev WideF.wide rfl (Ev_pure rfl) rfl rfl ?_ | (show opsA _ _ _ _ (⟨_, .call _, _, _, _, _⟩ :: _) _ _; refine O_ev WideF.wide rfl (Ev_slen rfl) rfl rfl ?_) | (show opsA _ _ _ _ (⟨_, .binOp _ _ _ _ _, _, _, _, _⟩ :: _) _ _; refine O_ev WideF.wide rfl (Ev_add rfl rfl (wi64 (by omega))) rfl rfl ?_) | (show opsA _ _ _ _ (⟨_, .index _ _ _, _, _, _, _⟩ :: _) _ _; refine O_ev WideF.wide rfl (Ev_sindex rfl rfl (by omega) (by omega)) rfl rfl ?_) | (show opsA _ _ _ _ (⟨_, .slice _ _ _ _ _, _, _, _, _⟩ :: _) _ _; refine O_ev WideF.wide rfl (Ev_sslice rfl rfl rfl (by omega) (by omega) (by omega)) rfl rfl ?_)) | (show wpA _ _ _ (.exit _) _ _ _ _; refine A_exit rfl ?_) | (show wpA _ _ _ (.cond _ _ _) _ _ _ _; (refine A_if rfl (fun h => ?_) (fun h => ?_) <;> try (exfalso; omega))))
              all_goals try (exfalso; omega)
              refine Shift.to ⟨_, ?_, i + 1, lit ++ [x], acc, pl, a, cq, _, rfl, ⟨by omega, by simp; omega, by omega, g4, by omega, g6⟩, rfl⟩ ⟨rfl, rfl, rfl, ⟨rfl, rfl, rfl, rfl, rfl, trivial⟩, Own.sub_refl _⟩
              omega
          · have hin : i = s.length := by omega
            subst hin
            rw [List.drop_length, scnS_nil] at g6
            have hpf := places_fls acc lit
            have e : tplE s = if 9 < pl then ([], 9) else (fls acc lit, 0) := by
              rw [tplE_def, if_neg h1, if_neg (fun h => h h2), if_neg h3, ← g6]
              simp only [hpf]
              by_cases h : 9 < places acc
              · rw [if_pos h, if_pos (by omega)]
              · rw [if_neg h, if_neg (by omega)]
            unfold ParseO
            by_cases h9 : 9 < pl
            · rw [e, if_pos h9]
              repeat' (first | refine O_nil ?_ | refine A_seq ?_ | refine A_region ?_ | refine A_skip ?_ | refine A_ret ?_ | (show opsA _ _ _ _ _ _ _; first | refine O_ev WideF.wide rfl (Ev_pure rfl) rfl rfl ?_ | (show opsA _ _ _ _ (⟨_, .call _, _, _, _, _⟩ :: _) _ _; first | refine O_ev WideF.wide rfl (Ev_slen rfl) rfl rfl ?_ | (refine O_f1 (O_ef rfl (Ef_appendR WideF.wide rfl rfl rfl rfl rfl (by simp; omega) (by simp; omega) rfl ?_)); intro a cp)) | (show opsA _ _ _ _ (⟨_, .buildSlice _ _ _, _, _, _, _⟩ :: _) _ _; (refine O_ef rfl (Ef_build1a WideF.wide rfl rfl rfl rfl rfl ?_); intro b)) | (show opsA _ _ _ _ (⟨_, .binOp _ _ _ _ _, _, _, _, _⟩ :: _) _ _; refine O_ev WideF.wide rfl (Ev_sneq rfl rfl) rfl rfl ?_) | (show opsA _ _ _ _ (⟨_, .build _ _, _, _, _, _⟩ :: _) _ _; refine O_ev WideF.wide rfl (Ev_build (vs := [(_, _)]) ⟨rfl, rfl, trivial⟩ rfl) rfl rfl ?_)) | (show wpA _ _ _ (.exit _) _ _ _ _; refine A_exit rfl ?_) | (show wpA _ _ _ (.cond _ _ _) _ _ _ _; (refine A_if rfl (fun h => ?_) (fun h => ?_) <;> try (exfalso; omega))))
              all_goals first
                | (exfalso; omega)
                | exact End_nilrow 3 (Ret2 rfl rfl rfl) ⟨none, 0, rfl, rfl⟩
            · rw [e, if_neg h9]
              by_cases hlit : lit = []
              · subst hlit
                have hfl : fls acc [] = acc := by unfold fls; rw [if_pos rfl]
                rw [hfl]
                repeat' (first | refine O_nil ?_ | refine A_seq ?_ | refine A_region ?_ | refine A_skip ?_ | refine A_ret ?_ | (show opsA _ _ _ _ _ _ _; first | refine O_ev WideF.wide rfl (Ev_pure rfl) rfl rfl ?_ | (show opsA _ _ _ _ (⟨_, .call _, _, _, _, _⟩ :: _) _ _; first | refine O_ev WideF.wide rfl (Ev_slen rfl) rfl rfl ?_ | (refine O_f1 (O_ef rfl (Ef_appendR WideF.wide rfl rfl rfl rfl rfl (by simp; omega) (by simp; omega) rfl ?_)); intro a cp)) | (show opsA _ _ _ _ (⟨_, .buildSlice _ _ _, _, _, _, _⟩ :: _) _ _; (refine O_ef rfl (Ef_build1a WideF.wide rfl rfl rfl rfl rfl ?_); intro b)) | (show opsA _ _ _ _ (⟨_, .binOp _ _ _ _ _, _, _, _, _⟩ :: _) _ _; refine O_ev WideF.wide rfl (Ev_sneq rfl rfl) rfl rfl ?_) | (show opsA _ _ _ _ (⟨_, .build _ _, _, _, _, _⟩ :: _) _ _; refine O_ev WideF.wide rfl (Ev_build (vs := [(_, _)]) ⟨rfl, rfl, trivial⟩ rfl) rfl rfl ?_)) | (show wpA _ _ _ (.exit _) _ _ _ _; refine A_exit rfl ?_) | (show wpA _ _ _ (.cond _ _ _) _ _ _ _; (refine A_if rfl (fun h => ?_) (fun h => ?_) <;> try (exfalso; omega))))
                all_goals try (exfalso; omega)
                all_goals try (exfalso; exact absurd (rfl : ([] : List UInt8) = []) (by assumption))
                all_goals exact End_m (Ret2 rfl rfl rfl) ⟨_, _, rfl, rfl⟩
              · have hfl : fls acc lit = acc ++ [⟨lit, 0, false⟩] := by unfold fls; rw [if_neg hlit]
                rw [hfl]
                repeat' (first | refine O_nil ?_ | refine A_seq ?_ | refine A_region ?_ | refine A_skip ?_ | refine A_ret ?_ | (show opsA _ _ _ _ _ _ _; first | refine O_ev WideF.wide rfl (Ev_pure rfl) rfl rfl ?_ | (show opsA _ _ _ _ (⟨_, .call _, _, _, _, _⟩ :: _) _ _; first | refine O_ev WideF.wide rfl (Ev_slen rfl) rfl rfl ?_ | (refine O_f1 (O_ef rfl (Ef_appendR WideF.wide rfl rfl rfl rfl rfl (by simp; omega) (by simp; omega) rfl ?_)); intro a cp)) | (show opsA _ _ _ _ (⟨_, .buildSlice _ _ _, _, _, _, _⟩ :: _) _ _; (refine O_ef rfl (Ef_build1a WideF.wide rfl rfl rfl rfl rfl ?_); intro b)) | (show opsA _ _ _ _ (⟨_, .binOp _ _ _ _ _, _, _, _, _⟩ :: _) _ _; refine O_ev WideF.wide rfl (Ev_sneq rfl rfl) rfl rfl ?_) | (show opsA _ _ _ _ (⟨_, .build _ _, _, _, _, _⟩ :: _) _ _; refine O_ev WideF.wide rfl (Ev_build (vs := [(_, _)]) ⟨rfl, rfl, trivial⟩ rfl) rfl rfl ?_)) | (show wpA _ _ _ (.exit _) _ _ _ _; refine A_exit rfl ?_) | (show wpA _ _ _ (.cond _ _ _) _ _ _ _; (refine A_if rfl (fun h => ?_) (fun h => ?_) <;> try (exfalso; omega))))
                all_goals try (exfalso; omega)
                all_goals try (exfalso; exact absurd hlit (by assumption))
                rw [fill_lit, snoc_row ⟨lit, 0, false⟩ rfl, List.length_map]
                exact End_m (Ret2 rfl rfl rfl) ⟨_, _, rfl, rfl⟩
    · have e : tplE s = ([], 12) := by rw [tplE_def, if_neg h1, if_pos h2]
      unfold ParseO
      rw [e]
      refine Fn_of _ _ Tryz.func15 rfl Tryz.ntmps15 rfl fun c => ?_
      repeat' (first | (refine O_ef rfl (Ef_call (I := []) WideF.wide (hv _) ⟨rfl, trivial⟩ rfl ?_); rintro v H1 I1 hle1 ⟨⟨r, rfl, hr⟩, rfl⟩); have hr1 : 0 ≤ r := hr.2 h2 | refine O_nil ?_ | refine A_seq ?_ | refine A_region ?_ | refine A_ret ?_ | refine A_block ?_ | (show opsA _ _ _ _ _ _ _; first | refine O_ev WideF.wide rfl (Ev_pure rfl) rfl rfl ?_ | (show opsA _ _ _ _ (⟨_, .call _, _, _, _, _⟩ :: _) _ _; refine O_ev WideF.wide rfl (Ev_slen rfl) rfl rfl ?_)) | (show wpA _ _ _ (.cond _ _ _) _ _ _ _; (refine A_if rfl (fun h => ?_) (fun h => ?_) <;> try (exfalso; omega))))
      all_goals first
        | (exfalso; omega)
        | exact End_nilrow 3 (Ret2 rfl rfl rfl) ⟨none, 0, rfl, rfl⟩
set_option maxRecDepth 100000 in
set_option maxHeartbeats 2000000 in
theorem rUsed_own {H : Hp} {a : Option Addr} {n cq : Nat} {l : List Pt} (hx : HRow H a n cq 3 (l.map prow)) (hn : n < 68719476736) : Fn Tryz.prog 29 [.slice a n cq] H [] fun v _ I => IntsO (usedL l) v I := by
  have e1 : l.length = n := by have := hx.len; simpa using this
  refine Fn_of _ _ Tryz.func29 rfl Tryz.ntmps29 rfl fun c => ?_
  refine A_nilrow 1 ?_
  repeat' (first | refine O_nil ?_ | refine A_seq ?_ | refine A_region ?_ | refine A_block ?_ | (show opsA _ _ _ _ _ _ _; refine O_ev WideF.wide rfl (Ev_pure rfl) rfl rfl ?_))
  refine A_loopu (fun m st => ∃ (k : Nat) (a' : Option Addr) (c' : Nat) (cur : List Int), m = 9 - k ∧ k ≤ 9 ∧ cur = usedUp l k ∧ st = ⟨43, [(0, .slice a n cq), (3, .slice a' cur.length c'), (4, .int .i64 ((k : Int) + 1))], H, [.row (.slice a' cur.length c') 1 (cur.map irow)], [], []⟩) ?_ ?_
  · exact Shift.to ⟨_, 0, none, 0, [], rfl, by omega, rfl, rfl⟩ ⟨rfl, rfl, rfl, ⟨rfl, rfl, rfl, trivial⟩, Own.subi [0] (by decide) rfl rfl⟩
  · rintro m st ⟨k, a', c', cur, rfl, hk, hcur, rfl⟩
    by_cases hlt : k < 9
    · repeat' (first | refine O_nil ?_ | refine A_seq ?_ | refine A_region ?_ | refine A_skip ?_ | refine A_block ?_ | (show opsA _ _ _ _ _ _ _; refine O_ev WideF.wide rfl (Ev_pure rfl) rfl rfl ?_) | (show wpA _ _ _ (.cond _ _ _) _ _ _ _; (refine A_if rfl (fun h => ?_) (fun h => ?_) <;> try (exfalso; omega))))
      all_goals try (exfalso; omega)
      refine A_loopu (fun m st => ∃ (i : Nat) (a' : Option Addr) (c' : Nat) (cur : List Int), m = n - i ∧ i ≤ n ∧ cur = curL l k i ∧ st = inSt H a n cq a' c' k i cur) ?_ ?_
      · exact Shift.to ⟨_, 0, a', c', cur, rfl, by omega, by rw [curL_zero]; exact hcur, rfl⟩ ⟨rfl, rfl, rfl, ⟨rfl, rfl, rfl, rfl, trivial⟩, Own.subi [0] (by decide) rfl rfl⟩
      · rintro m st ⟨i, a', c', cur, rfl, hi, hcur, rfl⟩
        have hcl := curL_len l k i
        rw [← hcur] at hcl
        by_cases hin : i < n
        · obtain ⟨b, o, p, rfl, hpi, hc⟩ := hx.atm i hin
          unfold prow at hc
          by_cases hpl : p.lev = (k : Int) + 1
          · refine A_rowaddr (q := 0) rfl ?_
            intro _ _ ha _ had
            by_cases hex : ∃ q ∈ l.take i, q.lev = (k : Int) + 1
            · obtain ⟨q1, c0, q2⟩ := curL_old hpi hex
              rw [← hcur] at q1 q2
              have hc1 : cur.length = c0.length + 1 := by rw [q2]; simp
              cases a' with
              | none => have := (ha rfl).1; rw [q2] at this; simp at this
              | some ad =>
                obtain ⟨b2, rfl⟩ := had ad rfl
                have hget : (cur.map irow)[c0.length]? = some [.int .i64 ((k : Int) + 1)] := by rw [q2, List.map_append, List.getElem?_append_right (by simp)]; simp [irow]
                repeat' (first | (refine O_ev WideF.wide rfl (Ev_loadR1 (q := 0) (d := 0) rfl rfl hget (by simp; omega) rfl) rfl rfl ?_) | refine O_nil ?_ | refine A_seq ?_ | refine A_region ?_ | refine A_skip ?_ | refine A_block ?_ | (show opsA _ _ _ _ _ _ _; first | (refine O_split rfl rfl (fun h => ?_) (fun h => ?_) <;> try (exfalso; omega)) | refine O_ev WideF.wide rfl (Ev_pure rfl) rfl rfl ?_ | (show opsA _ _ _ _ (⟨_, .load _ _, _, _, _, _⟩ :: _) _ _; refine O_ev WideF.wide rfl (Ev_loadH1 rfl (hc 1 _ rfl)) rfl rfl ?_) | (show opsA _ _ _ _ (⟨_, .indexAddr _ _ _, _, _, _, _⟩ :: _) _ _; refine O_ev WideF.wide rfl (Ev_indexAddr rfl rfl (by omega) (by omega)) rfl rfl ?_) | (show opsA _ _ _ _ (⟨_, .fieldAddr _ _ _, _, _, _, _⟩ :: _) _ _; refine O_ev WideF.wide rfl (Ev_fieldAddr rfl rfl rfl) rfl rfl ?_) | (show opsA _ _ _ _ (⟨_, .call _, _, _, _, _⟩ :: _) _ _; refine O_ev WideF.wide rfl (Ev_llen rfl) rfl rfl ?_) | (show opsA _ _ _ _ (⟨_, .binOp _ _ _ _ _, _, _, _, _⟩ :: _) _ _; first | refine O_ev WideF.wide rfl (Ev_add rfl rfl (wi64 (by omega))) rfl rfl ?_ | refine O_ev WideF.wide rfl (Ev_sub rfl rfl (wi64 (by omega))) rfl rfl ?_)) | (show wpA _ _ _ (.cond _ _ _) _ _ _ _; (refine A_if rfl (fun h => ?_) (fun h => ?_) <;> try (exfalso; omega))))
                all_goals try (exfalso; omega)
                refine Shift.to ⟨_, ?_, i + 1, _, c', cur, rfl, by omega, q1.symm, rfl⟩ ⟨rfl, rfl, rfl, ⟨rfl, rfl, rfl, rfl, trivial⟩, Own.subi [0] (by decide) rfl rfl⟩
                omega
            · obtain ⟨q1, q2⟩ := curL_new hpi hpl hex
              rw [← hcur] at q1 q2
              by_cases h0 : cur.length = 0
              · repeat' (first | refine O_nil ?_ | refine A_seq ?_ | refine A_region ?_ | refine A_skip ?_ | refine A_block ?_ | (show opsA _ _ _ _ _ _ _; first | (refine O_split rfl rfl (fun h => ?_) (fun h => ?_) <;> try (exfalso; omega)) | refine O_ev WideF.wide rfl (Ev_pure rfl) rfl rfl ?_ | (show opsA _ _ _ _ (⟨_, .load _ _, _, _, _, _⟩ :: _) _ _; refine O_ev WideF.wide rfl (Ev_loadH1 rfl (hc 1 _ rfl)) rfl rfl ?_) | (show opsA _ _ _ _ (⟨_, .indexAddr _ _ _, _, _, _, _⟩ :: _) _ _; refine O_ev WideF.wide rfl (Ev_indexAddr rfl rfl (by omega) (by omega)) rfl rfl ?_) | (show opsA _ _ _ _ (⟨_, .fieldAddr _ _ _, _, _, _, _⟩ :: _) _ _; refine O_ev WideF.wide rfl (Ev_fieldAddr rfl rfl rfl) rfl rfl ?_) | (show opsA _ _ _ _ (⟨_, .call _, _, _, _, _⟩ :: _) _ _; first | refine O_ev WideF.wide rfl (Ev_llen rfl) rfl rfl ?_ | (refine O_f1 (O_ef rfl (Ef_appendR WideF.wide rfl rfl rfl rfl rfl (by simp; omega) (by simp; omega) rfl ?_)); intro a cp)) | (show opsA _ _ _ _ (⟨_, .buildSlice _ _ _, _, _, _, _⟩ :: _) _ _; (refine O_ef rfl (Ef_build11 WideF.wide rfl rfl rfl ?_); intro b)) | (show opsA _ _ _ _ (⟨_, .binOp _ _ _ _ _, _, _, _, _⟩ :: _) _ _; refine O_ev WideF.wide rfl (Ev_add rfl rfl (wi64 (by omega))) rfl rfl ?_) | refine O_skip WideF.wide rfl rfl rfl ?_) | (show wpA _ _ _ (.cond _ _ _) _ _ _ _; first | (refine A_if rfl (fun h => ?_) (fun h => ?_) <;> try (exfalso; omega)) | refine A_iftrue rfl ?_))
                all_goals try (exfalso; omega)
                rw [isnoc_row, List.length_map]
                refine Shift.to ⟨_, ?_, i + 1, _, _, cur ++ [(k : Int) + 1], rfl, by omega, q1.symm, rfl⟩ ⟨rfl, rfl, rfl, ⟨rfl, rfl, rfl, rfl, trivial⟩, Own.subi [0] (by decide) rfl rfl⟩
                omega
              · cases a' with
                | none => have := (ha rfl).1; rw [List.map_eq_nil_iff] at this; rw [this] at h0; exact absurd rfl h0
                | some ad =>
                  obtain ⟨b2, rfl⟩ := had ad rfl
                  obtain ⟨y, hy⟩ : ∃ y, cur[cur.length - 1]? = some y := ⟨_, List.getElem?_eq_getElem (by omega)⟩
                  have hyk := q2 y (List.mem_of_getElem? hy)
                  have hget : (cur.map irow)[cur.length - 1]? = some [.int .i64 y] := by rw [List.getElem?_map, hy]; rfl
                  repeat' (first | (refine O_ev WideF.wide rfl (Ev_loadR1 (q := 0) (d := 0) rfl rfl hget (by omega) rfl) rfl rfl ?_) | refine O_nil ?_ | refine A_seq ?_ | refine A_region ?_ | refine A_skip ?_ | refine A_block ?_ | (show opsA _ _ _ _ _ _ _; first | (refine O_split rfl rfl (fun h => ?_) (fun h => ?_) <;> try (exfalso; omega)) | refine O_ev WideF.wide rfl (Ev_pure rfl) rfl rfl ?_ | (show opsA _ _ _ _ (⟨_, .load _ _, _, _, _, _⟩ :: _) _ _; refine O_ev WideF.wide rfl (Ev_loadH1 rfl (hc 1 _ rfl)) rfl rfl ?_) | (show opsA _ _ _ _ (⟨_, .indexAddr _ _ _, _, _, _, _⟩ :: _) _ _; refine O_ev WideF.wide rfl (Ev_indexAddr rfl rfl (by omega) (by omega)) rfl rfl ?_) | (show opsA _ _ _ _ (⟨_, .fieldAddr _ _ _, _, _, _, _⟩ :: _) _ _; refine O_ev WideF.wide rfl (Ev_fieldAddr rfl rfl rfl) rfl rfl ?_) | (show opsA _ _ _ _ (⟨_, .call _, _, _, _, _⟩ :: _) _ _; first | refine O_ev WideF.wide rfl (Ev_llen rfl) rfl rfl ?_ | (refine O_f1 (O_ef rfl (Ef_appendR WideF.wide rfl rfl rfl rfl rfl (by simp; omega) (by simp; omega) rfl ?_)); intro a cp)) | (show opsA _ _ _ _ (⟨_, .buildSlice _ _ _, _, _, _, _⟩ :: _) _ _; (refine O_ef rfl (Ef_build11 WideF.wide rfl rfl rfl ?_); intro b)) | (show opsA _ _ _ _ (⟨_, .binOp _ _ _ _ _, _, _, _, _⟩ :: _) _ _; first | refine O_ev WideF.wide rfl (Ev_add rfl rfl (wi64 (by omega))) rfl rfl ?_ | refine O_ev WideF.wide rfl (Ev_sub rfl rfl (wi64 (by omega))) rfl rfl ?_)) | (show wpA _ _ _ (.cond _ _ _) _ _ _ _; (refine A_if rfl (fun h => ?_) (fun h => ?_) <;> try (exfalso; omega))))
                  all_goals try (exfalso; omega)
                  rw [isnoc_row, List.length_map]
                  refine Shift.to ⟨_, ?_, i + 1, _, _, cur ++ [(k : Int) + 1], rfl, by omega, q1.symm, rfl⟩ ⟨rfl, rfl, rfl, ⟨rfl, rfl, rfl, rfl, trivial⟩, Own.subi [0] (by decide) rfl rfl⟩
                  omega
          · repeat' (first | refine O_nil ?_ | refine A_seq ?_ | refine A_region ?_ | refine A_skip ?_ | refine A_block ?_ | (show opsA _ _ _ _ _ _ _; first | (refine O_split rfl rfl (fun h => ?_) (fun h => ?_) <;> try (exfalso; omega)) | refine O_ev WideF.wide rfl (Ev_pure rfl) rfl rfl ?_ | (show opsA _ _ _ _ (⟨_, .load _ _, _, _, _, _⟩ :: _) _ _; refine O_ev WideF.wide rfl (Ev_loadH1 rfl (hc 1 _ rfl)) rfl rfl ?_) | (show opsA _ _ _ _ (⟨_, .indexAddr _ _ _, _, _, _, _⟩ :: _) _ _; refine O_ev WideF.wide rfl (Ev_indexAddr rfl rfl (by omega) (by omega)) rfl rfl ?_) | (show opsA _ _ _ _ (⟨_, .fieldAddr _ _ _, _, _, _, _⟩ :: _) _ _; refine O_ev WideF.wide rfl (Ev_fieldAddr rfl rfl rfl) rfl rfl ?_) | (show opsA _ _ _ _ (⟨_, .call _, _, _, _, _⟩ :: _) _ _; refine O_ev WideF.wide rfl (Ev_llen rfl) rfl rfl ?_) | (show opsA _ _ _ _ (⟨_, .binOp _ _ _ _ _, _, _, _, _⟩ :: _) _ _; refine O_ev WideF.wide rfl (Ev_add rfl rfl (wi64 (by omega))) rfl rfl ?_) | refine O_skip WideF.wide rfl rfl rfl ?_) | (show wpA _ _ _ (.cond _ _ _) _ _ _ _; first | (refine A_if rfl (fun h => ?_) (fun h => ?_) <;> try (exfalso; omega)) | refine A_iffalse rfl ?_))
            all_goals try (exfalso; omega)
            refine Shift.to ⟨_, ?_, i + 1, a', c', cur, rfl, by omega, by rw [curL_no hpi hpl]; exact hcur, rfl⟩ ⟨rfl, rfl, rfl, ⟨rfl, rfl, rfl, rfl, trivial⟩, Own.subi [0] (by decide) rfl rfl⟩
            omega
        · repeat' (first | refine O_nil ?_ | refine A_seq ?_ | refine A_region ?_ | (show opsA _ _ _ _ _ _ _; first | refine O_ev WideF.wide rfl (Ev_pure rfl) rfl rfl ?_ | (show opsA _ _ _ _ (⟨_, .call _, _, _, _, _⟩ :: _) _ _; refine O_ev WideF.wide rfl (Ev_llen rfl) rfl rfl ?_) | (show opsA _ _ _ _ (⟨_, .binOp _ _ _ _ _, _, _, _, _⟩ :: _) _ _; refine O_ev WideF.wide rfl (Ev_add rfl rfl (wi64 (by omega))) rfl rfl ?_)) | (show wpA _ _ _ (.exit _) _ _ _ _; refine A_exit rfl ?_) | (show wpA _ _ _ (.cond _ _ _) _ _ _ _; (refine A_if rfl (fun h => ?_) (fun h => ?_) <;> try (exfalso; omega))))
          all_goals try (exfalso; omega)
          refine Shift.to ⟨_, ?_, k + 1, a', c', cur, rfl, by omega, by rw [hcur, curL_full (by omega)], rfl⟩ ⟨rfl, rfl, rfl, ⟨rfl, rfl, rfl, trivial⟩, Own.subi [0] (by decide) rfl rfl⟩
          omega
    · have hk9 : k = 9 := by omega
      subst hk9
      repeat' (first | refine O_nil ?_ | refine A_seq ?_ | refine A_region ?_ | refine A_ret ?_ | (show opsA _ _ _ _ _ _ _; refine O_ev WideF.wide rfl (Ev_pure rfl) rfl rfl ?_) | (show wpA _ _ _ (.exit _) _ _ _ _; refine A_exit rfl ?_) | (show wpA _ _ _ (.cond _ _ _) _ _ _ _; (refine A_if rfl (fun h => ?_) (fun h => ?_) <;> try (exfalso; omega))))
      all_goals try (exfalso; omega)
      subst hcur
      exact End_m (Ret1 rfl rfl) ⟨_, _, rfl, rfl⟩
end Go.Proofs.YtaneeaojlkenmaaGreatDoor
