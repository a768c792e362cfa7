/-
  mark.set.
-/
import Derived.Test.YthniohgeojenaaaS1
namespace Go.Proofs.Ythniohgeojenaaa
open Go
set_option linter.unusedVariables false
set_option linter.unusedSimpArgs false
/-- a list of numbers in memory -/
structure Lst where
  a : Option Addr
  n : Nat
  c : Nat
  l : List Int
def Lst.row (x : Lst) : List Value := [.slice x.a x.n x.c]
def Lst.ok (H : Hp) (x : Lst) : Prop := HRow H x.a x.n x.c 1 (x.l.map irow)
def flat (ls : List Lst) : List Int := ls.flatMap Lst.l
theorem flat_snoc (ls : List Lst) (x : Lst) : flat (ls ++ [x]) = flat ls ++ x.l := by simp [flat]
attribute [local irreducible] wpA opsA drJ drQ drE Ef Ev Shift Fn
theorem zbool : ∀ w, (zeroValue 4).run Try.prog w = .ok (.bool false) w := Try.zeroValue4
abbrev sEnvS (a : Option Addr) (n c : Nat) (mb : Nat) (oa : Option Addr) (on oc : Nat) : Env := [(0, .slice a n c), (3, .map (some mb)), (4, .slice oa on oc)]
set_option maxRecDepth 100000 in
set_option maxHeartbeats 4000000 in
theorem set_fn {H : Hp} {a : Option Addr} {n cq : Nat} {ls : List Lst} (hx : HRow H a n cq 1 (ls.map Lst.row)) (hls : ∀ x ∈ ls, x.ok H) (hn : n < 1073741824) (hm : (flat ls).length < 1073741824) :
    Fn Try.prog 73 [.slice a n cq] H [] (IntsIs (sortI (flat ls))) := by
  have e1 : ls.length = n := by have := hx.len; simpa using this
  refine Fn_of _ _ Try.func73 rfl Try.ntmps73 rfl fun c => ?_
  refine A_seq ?_
  refine A_cutu (fun s => s = ⟨37, [(0, .slice a n cq)], H, [], [], []⟩) ?_ ?_
  · repeat' (first | refine O_nil ?_ | refine A_region ?_ | (show opsA _ _ _ _ _ _ _; refine O_ev WideF.wide rfl (Ev_pure rfl) rfl rfl ?_))
    exact Shift.to rfl ⟨rfl, rfl, rfl, ⟨rfl, trivial⟩, Own.sub_nil _⟩
  rintro s rfl
  refine A_seq ?_
  refine A_cutu (fun s => ∃ mb, s = ⟨37, [(0, .slice a n cq), (3, .map (some mb))], H, [.obj mb (.map #[] 0)], [], []⟩) ?_ ?_
  · repeat' (first | (refine O_ef rfl (Ef_makeMapS WideF.wide rfl ?_); intro b) | refine O_nil ?_ | refine A_region ?_ | (show opsA _ _ _ _ _ _ _; refine O_ev WideF.wide rfl (Ev_pure rfl) rfl rfl ?_))
    exact Shift.to ⟨_, rfl⟩ ⟨rfl, rfl, rfl, ⟨rfl, rfl, trivial⟩, Own.subi [0] (by decide) rfl rfl⟩
  rintro s ⟨mb, rfl⟩
  refine A_nilrow 1 ?_
  refine A_seq ?_
  refine A_cutu (fun s => s = ⟨37, sEnvS a n cq mb none 0 0, H, [.obj mb (.map #[] 0), .row (.slice none 0 0) 1 []], [], []⟩) ?_ ?_
  · repeat' (first | refine O_nil ?_ | refine A_region ?_ | (show opsA _ _ _ _ _ _ _; refine O_ev WideF.wide rfl (Ev_pure rfl) rfl rfl ?_))
    exact Shift.to rfl ⟨rfl, rfl, rfl, ⟨rfl, rfl, rfl, trivial⟩, Own.subi [1, 0] (by decide) rfl rfl⟩
  rintro s rfl
  refine A_seq ?_
  refine A_cutu (fun s => ∃ (es : Array MapEntry) (ck : Nat) (oa : Option Addr) (on oc : Nat), s = ⟨37, sEnvS a n cq mb oa on oc, H, [.row (.slice oa on oc) 1 ((onceI (flat ls)).map irow)], [], []⟩) ?_ ?_
  · repeat' (first | refine O_nil ?_ | refine A_seq ?_ | refine A_region ?_ | refine A_block ?_ | (show opsA _ _ _ _ _ _ _; first | refine O_ev WideF.wide rfl (Ev_pure rfl) rfl rfl ?_ | (show opsA _ _ _ _ (⟨_, .call _, _, _, _, _⟩ :: _) _ _; refine O_ev WideF.wide rfl (Ev_llen rfl) rfl rfl ?_)))
    refine A_loopu (fun m s => ∃ (i : Nat) (es : Array MapEntry) (ck : Nat) (oa : Option Addr) (on oc : Nat) (p : List (List Value)) (O : List Int), m = n - i ∧ i ≤ n ∧ O = onceI (flat (ls.take i)) ∧ p = O.map irow ∧ p.length = on ∧ SetMap es O ∧ s = ⟨37, (10, .slice a n cq) :: (11, .int .i64 n) :: (12, .int .i64 i) :: sEnvS a n cq mb oa on oc, H, [.obj mb (.map es ck), .row (.slice oa on oc) 1 p], [], []⟩) ?_ ?_
    · exact Shift.to ⟨_, 0, _, _, _, _, _, [], [], rfl, by omega, rfl, rfl, rfl, SetMap.nil, rfl⟩ ⟨rfl, rfl, rfl, ⟨rfl, rfl, rfl, rfl, rfl, rfl, trivial⟩, Own.subi [0, 1] (by decide) rfl rfl⟩
    · rintro m s ⟨i, es, ck, oa, on, oc, p, O, rfl, hi, hO, hp, hpl, hset, rfl⟩
      by_cases hlt : i < n
      · obtain ⟨b', ob, x, rfl, hxi, hc⟩ := hx.atm i hlt
        unfold Lst.row at hc
        have hxo : x.ok H := hls x (List.mem_of_getElem? hxi)
        obtain ⟨xa, xn, xc, xl⟩ := x
        unfold Lst.ok at hxo
        simp only at hxo hc
        have e2 : xl.length = xn := by have := hxo.len; simpa using this
        have hfl : (flat (ls.take (i + 1))).length ≤ (flat ls).length := by
          have e : flat ls = flat (ls.take (i + 1)) ++ flat (ls.drop (i + 1)) := by unfold flat; rw [← List.flatMap_append, List.take_append_drop]
          rw [e]; simp
        have hfs : flat (ls.take (i + 1)) = flat (ls.take i) ++ xl := by rw [take_get hxi, flat_snoc]
        rw [hfs, List.length_append] at hfl
        repeat' (first | (refine O_ev WideF.wide rfl (Ev_loadH1 rfl (hc 0 _ rfl)) rfl rfl ?_) | refine O_nil ?_ | refine A_seq ?_ | refine A_region ?_ | refine A_skip ?_ | refine A_block ?_ | (show opsA _ _ _ _ _ _ _; first | refine O_ev WideF.wide rfl (Ev_pure rfl) rfl rfl ?_ | (show opsA _ _ _ _ (⟨_, .indexAddr _ _ _, _, _, _, _⟩ :: _) _ _; refine O_ev WideF.wide rfl (Ev_indexAddr rfl rfl (by omega) (by omega)) rfl rfl ?_) | (show opsA _ _ _ _ (⟨_, .call _, _, _, _, _⟩ :: _) _ _; refine O_ev WideF.wide rfl (Ev_llen rfl) rfl rfl ?_)) | (show wpA _ _ _ (.cond _ _ _) _ _ _ _; (refine A_if rfl (fun h => ?_) (fun h => ?_) <;> try (exfalso; omega))))
        refine A_loopu (fun m s => ∃ (j : Nat) (es : Array MapEntry) (ck : Nat) (oa : Option Addr) (on oc : Nat) (p : List (List Value)) (O : List Int), m = xn - j ∧ j ≤ xn ∧ O = onceI (flat (ls.take i) ++ xl.take j) ∧ p = O.map irow ∧ p.length = on ∧ SetMap es O ∧ s = ⟨37, (16, .slice xa xn xc) :: (17, .int .i64 xn) :: (18, .int .i64 j) :: (10, .slice (some ⟨b', ob, none⟩) n cq) :: (11, .int .i64 n) :: (12, .int .i64 i) :: sEnvS (some ⟨b', ob, none⟩) n cq mb oa on oc, H, [.obj mb (.map es ck), .row (.slice oa on oc) 1 p], [], []⟩) ?_ ?_
        · exact Shift.to ⟨_, 0, _, _, _, _, _, _, O, rfl, by omega, by rw [hO]; simp, hp, hpl, hset, rfl⟩ ⟨rfl, rfl, rfl, ⟨rfl, rfl, rfl, rfl, rfl, rfl, rfl, rfl, rfl, trivial⟩, Own.subi [0, 1] (by decide) rfl rfl⟩
        · clear hO hp hpl hset p O es
          rintro m s ⟨j, es, ck, oa, on, oc, p, O, rfl, hj, hO, hp, hpl, hset, rfl⟩
          have hol := (onceI_spec (flat (ls.take i) ++ xl.take j)).2.1
          rw [← hO, List.length_append, List.length_take] at hol
          have hpl2 : p.length = O.length := by rw [hp]; simp
          by_cases hjl : j < xn
          · obtain ⟨b2, o2, y, rfl, hyj, hcy⟩ := hxo.atm j hjl
            unfold irow at hcy
            have hsn : onceI (flat (ls.take i) ++ xl.take (j + 1)) = if y ∈ O then O else O ++ [y] := by rw [take_get hyj, ← List.append_assoc, onceI_snoc, ← hO]
            by_cases hy : y ∈ O
            · rw [if_pos hy] at hsn
              have hdt : decide (y ∈ O) = true := decide_eq_true hy
              repeat' (first | (refine O_ev WideF.wide rfl (Ev_loadH1 rfl (hcy 0 _ rfl)) rfl rfl ?_) | (refine O_ev WideF.wide rfl (Ev_lookupS (i := 0) Try.underlying123 Try.underlying3 Try.underlying4 zbool rfl rfl rfl hset) rfl rfl ?_; rw [hdt]) | refine O_nil ?_ | refine A_seq ?_ | refine A_region ?_ | refine A_skip ?_ | refine A_block ?_ | (show opsA _ _ _ _ _ _ _; first | refine O_ev WideF.wide rfl (Ev_pure rfl) rfl rfl ?_ | (show opsA _ _ _ _ (⟨_, .indexAddr _ _ _, _, _, _, _⟩ :: _) _ _; refine O_ev WideF.wide rfl (Ev_indexAddr rfl rfl (by omega) (by omega)) rfl rfl ?_) | (show opsA _ _ _ _ (⟨_, .binOp _ _ _ _ _, _, _, _, _⟩ :: _) _ _; refine O_ev WideF.wide rfl (Ev_add rfl rfl (wi64 (by omega))) rfl rfl ?_) | (show opsA _ _ _ _ (⟨_, .unOp _ _ _, _, _, _, _⟩ :: _) _ _; refine O_ev WideF.wide rfl (Ev_notb rfl) rfl rfl ?_)) | (show wpA _ _ _ (.cond _ _ _) _ _ _ _; first | (refine A_if rfl (fun h => ?_) (fun h => ?_) <;> try (exfalso; omega)) | refine A_iffalse rfl ?_))
              refine Shift.to ⟨_, ?_, j + 1, es, ck, oa, on, oc, p, O, rfl, by omega, hsn.symm, hp, hpl, hset, rfl⟩ ⟨rfl, rfl, rfl, ⟨rfl, rfl, rfl, rfl, rfl, rfl, rfl, rfl, rfl, trivial⟩, Own.subi [0, 1] (by decide) rfl rfl⟩
              omega
            · rw [if_neg hy] at hsn
              have hdf : decide (y ∈ O) = false := decide_eq_false hy
              repeat' (first | (refine O_ev WideF.wide rfl (Ev_loadH1 rfl (hcy 0 _ rfl)) rfl rfl ?_) | (refine O_ev WideF.wide rfl (Ev_lookupS (i := 0) Try.underlying123 Try.underlying3 Try.underlying4 zbool rfl rfl rfl hset) rfl rfl ?_; rw [hdf]) | (refine O_ef rfl (Ef_mapUpdateS WideF.wide Try.underlying123 Try.underlying3 rfl rfl rfl hset hy ?_)) | refine O_nil ?_ | refine A_seq ?_ | refine A_region ?_ | refine A_skip ?_ | refine A_block ?_ | (show opsA _ _ _ _ _ _ _; first | refine O_ev WideF.wide rfl (Ev_pure rfl) rfl rfl ?_ | (show opsA _ _ _ _ (⟨_, .indexAddr _ _ _, _, _, _, _⟩ :: _) _ _; refine O_ev WideF.wide rfl (Ev_indexAddr rfl rfl (by omega) (by omega)) rfl rfl ?_) | (show opsA _ _ _ _ (⟨_, .call _, _, _, _, _⟩ :: _) _ _; (refine O_f2 (O_ef rfl (Ef_appendR WideF.wide rfl rfl rfl rfl rfl (by simp; omega) (by simp; omega) rfl ?_)); intro a cp)) | (show opsA _ _ _ _ (⟨_, .buildSlice _ _ _, _, _, _, _⟩ :: _) _ _; (refine O_ef rfl (Ef_build11 WideF.wide rfl rfl rfl ?_); intro b)) | (show opsA _ _ _ _ (⟨_, .binOp _ _ _ _ _, _, _, _, _⟩ :: _) _ _; refine O_ev WideF.wide rfl (Ev_add rfl rfl (wi64 (by omega))) rfl rfl ?_) | (show opsA _ _ _ _ (⟨_, .unOp _ _ _, _, _, _, _⟩ :: _) _ _; refine O_ev WideF.wide rfl (Ev_notb rfl) rfl rfl ?_)) | (show wpA _ _ _ (.cond _ _ _) _ _ _ _; first | (refine A_if rfl (fun h => ?_) (fun h => ?_) <;> try (exfalso; omega)) | refine A_iftrue rfl ?_))
              refine Shift.to ⟨_, ?_, j + 1, _, _, _, _, _, p ++ [irow y], O ++ [y], rfl, by omega, hsn.symm, by rw [hp]; simp, rfl, hset.push y _, rfl⟩ ⟨rfl, rfl, rfl, ⟨rfl, rfl, rfl, rfl, rfl, rfl, rfl, rfl, rfl, trivial⟩, Own.subi [1, 0] (by decide) rfl rfl⟩
              omega
          · have hjn : xn = j := by omega
            rw [List.take_of_length_le (l := xl) (by omega)] at hO
            subst hjn
            repeat' (first | refine O_nil ?_ | refine A_seq ?_ | refine A_region ?_ | (show opsA _ _ _ _ _ _ _; first | refine O_ev WideF.wide rfl (Ev_pure rfl) rfl rfl ?_ | (show opsA _ _ _ _ (⟨_, .binOp _ _ _ _ _, _, _, _, _⟩ :: _) _ _; refine O_ev WideF.wide rfl (Ev_add rfl rfl (wi64 (by omega))) rfl rfl ?_)) | (show wpA _ _ _ (.exit _) _ _ _ _; refine A_exit rfl ?_) | (show wpA _ _ _ (.cond _ _ _) _ _ _ _; (refine A_if rfl (fun h => ?_) (fun h => ?_) <;> try (exfalso; omega))))
            refine Shift.to ⟨_, ?_, i + 1, es, ck, oa, on, oc, p, O, rfl, by omega, by rw [hfs]; exact hO, hp, hpl, hset, rfl⟩ ⟨rfl, rfl, rfl, ⟨rfl, rfl, rfl, rfl, rfl, rfl, trivial⟩, Own.subi [0, 1] (by decide) rfl rfl⟩
            omega
      · have hin : n = i := by omega
        subst hin
        rw [List.take_of_length_le (by omega)] at hO
        subst hO hp
        repeat' (first | refine O_nil ?_ | refine A_seq ?_ | refine A_region ?_ | (show opsA _ _ _ _ _ _ _; refine O_ev WideF.wide rfl (Ev_pure rfl) rfl rfl ?_) | (show wpA _ _ _ (.exit _) _ _ _ _; refine A_exit rfl ?_) | (show wpA _ _ _ (.cond _ _ _) _ _ _ _; (refine A_if rfl (fun h => ?_) (fun h => ?_) <;> try (exfalso; omega))))
        exact Shift.to ⟨es, ck, oa, on, oc, rfl⟩ ⟨rfl, rfl, rfl, ⟨rfl, rfl, rfl, trivial⟩, Own.subi [1] (by decide) rfl rfl⟩
  rintro s ⟨es, ck, oa, on, oc, rfl⟩
  have hol := (onceI_spec (flat ls)).2.1
  have hsrt := fun Hx => sortInts_fn (H := Hx) (a := oa) (n := on) (cp := oc) (l := onceI (flat ls)) (by omega)
  repeat' (first | (refine O_ef rfl (Ef_call0 WideF.wide (hsrt _) ⟨rfl, trivial⟩ rfl ?_); rintro v H1 I1 hle1 ⟨rfl, rfl, rfl⟩) | refine O_nil ?_ | refine A_seq ?_ | refine A_region ?_ | refine A_ret ?_ | (show opsA _ _ _ _ _ _ _; refine O_ev WideF.wide rfl (Ev_pure rfl) rfl rfl ?_))
  rw [srt_once]
  exact End_row (Ret1 rfl rfl) (irow_one _) fun H' hle hr => ⟨⟨_, _, _, rfl, hr⟩, rfl⟩
end Go.Proofs.Ythniohgeojenaaa
