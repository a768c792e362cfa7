import Derived.Test.YtnoadopmeoohmaaGreatDoorZ09
import Derived.Test.YtnoadopmeoohmaaGreatDoorZ10
/-
  The scanner: take, quoted, scan. Printed by genF9.py.
-/
namespace Go.Proofs.YtnoadopmeoohmaaGreatDoor
open Go
set_option linter.unusedVariables false
set_option linter.unusedSimpArgs false
attribute [local irreducible] wpA opsA drJ drQ drE Ef Ev Shift Fn
theorem tw_len {l : List UInt8} {pr : UInt8 → Bool} {p q : Nat} (hp : p ≤ q) (hq : q ≤ l.length) (h : ∀ (j : Nat) (c : UInt8), p ≤ j → j < q → l[j]? = some c → pr c = true) (he : ∀ c, l[q]? = some c → pr c = false) : ((l.drop p).takeWhile pr).length = q - p := by
  induction hn : q - p generalizing p with
  | zero =>
    obtain rfl : p = q := by omega
    by_cases hl : p < l.length
    · rw [List.drop_eq_getElem_cons hl, List.takeWhile_cons, he _ (by simp [hl])]
      rfl
    · rw [List.drop_of_length_le (by omega)]; rfl
  | succ n ih =>
    have hl : p < l.length := by omega
    rw [List.drop_eq_getElem_cons hl, List.takeWhile_cons, h p _ (Nat.le_refl _) (by omega) (by simp [hl])]
    have := ih (p := p + 1) (by omega) (fun j c h1 h2 h3 => h j c (by omega) h2 h3) (by omega)
    simp [this]
theorem tw_eq {l : List UInt8} {pr : UInt8 → Bool} {p q : Nat} (hp : p ≤ q) (hq : q ≤ l.length) (h : ∀ (j : Nat) (c : UInt8), p ≤ j → j < q → l[j]? = some c → pr c = true) (he : ∀ c, l[q]? = some c → pr c = false) : (l.take q).drop p = (l.drop p).takeWhile pr := by
  have h1 := tw_len hp hq h he
  have h2 : (l.drop p).takeWhile pr = (l.drop p).take (q - p) := by
    rw [← h1]
    have := List.takeWhile_prefix (l := l.drop p) pr
    exact (List.prefix_iff_eq_take.1 this)
  rw [h2, List.drop_take]
set_option maxRecDepth 100000 in
theorem scan3_fn {H : Hp} {u : UInt8} : FnP Tryz.prog 129 [.int .u8 ((u.toNat : Nat) : Int)] H (.bool (isWd u)) := by
  have hcall := identifier_fn (H := H) (l := [97, u]) (by simp)
  have e1 : decide (idt [97, u]) = isWd u := by rw [isWd_eq]; exact decide_eq_decide.2 (idt_two u)
  rw [e1] at hcall
  have h256 : ((u.toNat : Nat) : Int) < 256 := by have := u.toNat_lt; omega
  refine Fn_of _ _ Tryz.func129 rfl Tryz.ntmps129 rfl fun c => ?_
  repeat' (first | (refine O_ev WideF.wide rfl (Ev_conv1 (i := 0) rfl rfl (by omega)) rfl rfl ?_) | (refine O_ev WideF.wide rfl (Ev_scat (s := [97]) (s2 := [UInt8.ofNat ((u.toNat : Nat) : Int).toNat]) rfl rfl (by simp)) rfl rfl ?_; rw [show UInt8.ofNat ((u.toNat : Nat) : Int).toNat = u by simp]) | (refine O_ef rfl (Ef_callp WideF.wide (hcall) ⟨rfl, trivial⟩ rfl ?_)) | refine O_nil ?_ | refine A_seq ?_ | refine A_region ?_ | refine A_ret ?_ | (show opsA _ _ _ _ _ _ _; first | refine O_ev WideF.wide rfl (Ev_pure rfl) rfl rfl ?_ | (show opsA _ _ _ _ (⟨_, .buildSlice _ _ _, _, _, _, _⟩ :: _) _ _; (refine O_ef rfl (Ef_build11 WideF.wide rfl rfl rfl ?_); intro b))))
  all_goals first
    | exact End_p (Ret1 rfl rfl) rfl
    | trace_state
set_option maxRecDepth 100000 in
set_option maxHeartbeats 4000000 in
theorem take_fn {f : FuncId} [FunC Tryz.prog f] {pr : UInt8 → Bool} (hf : ∀ (H : Hp) (c : UInt8), FnP Tryz.prog f [.int .u8 ((c.toNat : Nat) : Int)] H (.bool (pr c))) {H : Hp} {l : List UInt8} {p b1 b2 : Nat} (hl : l.length < 4611686018427387904) (hp : p ≤ l.length) (h1 : H b1 0 = some (.int .i64 p)) (h2 : H b2 0 = some (sv l)) :
    FnP Tryz.prog 127 [.func (.func f) #[] #[], .pointer (some ⟨b1, 0, none⟩), .pointer (some ⟨b2, 0, none⟩)] H (sv ((l.drop p).takeWhile pr)) := by
  refine Fn_of _ _ Tryz.func127 rfl Tryz.ntmps127 rfl fun c => ?_
  repeat' (first | (refine O_ev WideF.wide rfl (Ev_loadH1 rfl h1) rfl rfl ?_) | refine O_nil ?_ | refine A_seq ?_ | refine A_region ?_ | refine A_block ?_ | (show opsA _ _ _ _ _ _ _; refine O_ev WideF.wide rfl (Ev_pure rfl) rfl rfl ?_))
  refine A_loopu (fun q s => ∃ to : Nat, q = l.length - to ∧ p ≤ to ∧ to ≤ l.length ∧ (∀ (j : Nat) (c : UInt8), p ≤ j → j < to → l[j]? = some c → pr c = true) ∧ s = ⟨24, [(0, .func (.func f) #[] #[]), (1, .pointer (some ⟨b1, 0, none⟩)), (2, .pointer (some ⟨b2, 0, none⟩)), (5, .int .i64 to)], H, [], [], []⟩) ?_ ?_
  · exact Shift.to ⟨_, p, rfl, Nat.le_refl _, hp, fun j _ h3 h4 => absurd h3 (by omega), rfl⟩ ⟨rfl, rfl, rfl, ⟨rfl, rfl, rfl, rfl, trivial⟩, Own.sub_nil _⟩
  rintro q s ⟨to, rfl, hpt, htl, hall, rfl⟩
  by_cases hlt : to < l.length
  · obtain ⟨c, hc1, hc2, hc3⟩ := get_byte l to hlt
    have hcall := hf H c
    rw [← hc2] at hcall
    cases hb : pr c <;> rw [hb] at hcall
    · repeat' (first | (refine O_ev WideF.wide rfl (Ev_loadH1 rfl h1) rfl rfl ?_) | (refine O_ev WideF.wide rfl (Ev_loadH1 rfl h2) rfl rfl ?_) | (refine O_ef rfl (Ef_callvp WideF.wide hcall rfl ⟨rfl, trivial⟩ rfl ?_)) | refine O_nil ?_ | refine A_seq ?_ | refine A_region ?_ | refine A_ret ?_ | (show opsA _ _ _ _ _ _ _; first | (refine O_split rfl rfl (fun h => ?_) (fun h => ?_) <;> try (exfalso; omega)) | refine O_ev WideF.wide rfl (Ev_pure rfl) rfl rfl ?_ | (show opsA _ _ _ _ (⟨_, .call _, _, _, _, _⟩ :: _) _ _; refine O_ev WideF.wide rfl (Ev_slen rfl) rfl rfl ?_) | (show opsA _ _ _ _ (⟨_, .index _ _ _, _, _, _, _⟩ :: _) _ _; refine O_ev WideF.wide rfl (Ev_sindex rfl rfl (by omega) (by omega)) rfl rfl ?_) | (show opsA _ _ _ _ (⟨_, .slice _ _ _ _ _, _, _, _, _⟩ :: _) _ _; refine O_ev WideF.wide rfl (Ev_sslice rfl rfl rfl (by omega) (by omega) (by omega)) rfl rfl ?_)) | (show wpA _ _ _ (.exit _) _ _ _ _; refine A_exit rfl ?_) | (show wpA _ _ _ (.cond _ _ _) _ _ _ _; refine A_iffalse rfl ?_))
      all_goals first
        | (exfalso; omega)
        | (refine End_p (Ret1 rfl rfl) ?_; exact congrArg sv (tw_eq (p := p) (q := to) hpt htl hall (fun c' h9 => (by rw [hc1] at h9; cases h9; exact hb))))
        | trace_state
    · repeat' (first | (refine O_ev WideF.wide rfl (Ev_loadH1 rfl h2) rfl rfl ?_) | (refine O_ef rfl (Ef_callvp WideF.wide hcall rfl ⟨rfl, trivial⟩ rfl ?_)) | refine O_nil ?_ | refine A_seq ?_ | refine A_region ?_ | refine A_skip ?_ | refine A_block ?_ | (show opsA _ _ _ _ _ _ _; first | (refine O_split rfl rfl (fun h => ?_) (fun h => ?_) <;> try (exfalso; omega)) | refine O_ev WideF.wide rfl (Ev_pure rfl) rfl rfl ?_ | (show opsA _ _ _ _ (⟨_, .call _, _, _, _, _⟩ :: _) _ _; refine O_ev WideF.wide rfl (Ev_slen rfl) rfl rfl ?_) | (show opsA _ _ _ _ (⟨_, .binOp _ _ _ _ _, _, _, _, _⟩ :: _) _ _; refine O_ev WideF.wide rfl (Ev_add rfl rfl (wi64 (by omega))) rfl rfl ?_) | (show opsA _ _ _ _ (⟨_, .index _ _ _, _, _, _, _⟩ :: _) _ _; refine O_ev WideF.wide rfl (Ev_sindex rfl rfl (by omega) (by omega)) rfl rfl ?_)) | (show wpA _ _ _ (.cond _ _ _) _ _ _ _; refine A_iftrue rfl ?_))
      all_goals first
        | (exfalso; omega)
        | exact Shift.to ⟨_, by omega, to + 1, rfl, by omega, by omega, fun j c' h3 h4 h5 => (if h9 : j = to then (by subst h9; rw [hc1] at h5; cases h5; exact hb) else hall j c' h3 (by omega) h5), rfl⟩ ⟨rfl, rfl, rfl, ⟨rfl, rfl, rfl, rfl, trivial⟩, Own.sub_nil _⟩
        | trace_state
  · obtain rfl : to = l.length := by omega
    repeat' (first | (refine O_ev WideF.wide rfl (Ev_loadH1 rfl h1) rfl rfl ?_) | (refine O_ev WideF.wide rfl (Ev_loadH1 rfl h2) rfl rfl ?_) | refine O_nil ?_ | refine A_seq ?_ | refine A_region ?_ | refine A_ret ?_ | (show opsA _ _ _ _ _ _ _; first | (refine O_split rfl rfl (fun h => ?_) (fun h => ?_) <;> try (exfalso; omega)) | refine O_ev WideF.wide rfl (Ev_pure rfl) rfl rfl ?_ | (show opsA _ _ _ _ (⟨_, .call _, _, _, _, _⟩ :: _) _ _; refine O_ev WideF.wide rfl (Ev_slen rfl) rfl rfl ?_) | (show opsA _ _ _ _ (⟨_, .slice _ _ _ _ _, _, _, _, _⟩ :: _) _ _; refine O_ev WideF.wide rfl (Ev_sslice rfl rfl rfl (by omega) (by omega) (by omega)) rfl rfl ?_) | refine O_skip WideF.wide rfl rfl rfl ?_) | (show wpA _ _ _ (.exit _) _ _ _ _; refine A_exit rfl ?_) | (show wpA _ _ _ (.cond _ _ _) _ _ _ _; refine A_iffalse rfl ?_))
    all_goals first
      | (exfalso; omega)
      | (refine End_p (Ret1 rfl rfl) ?_; exact congrArg sv (tw_eq (p := p) (q := l.length) hpt htl hall (fun c' h9 => (by simp at h9))))
      | trace_state
/-! ### quoted -/
abbrev tcs (t : Tok) : List Value := [sv t.kind, sv t.text, .int .i64 t.pos]
def quoT (l : List UInt8) (p : Nat) : Tok := match qlen (l.drop (p + 1)) with
  | none => ⟨[33], l.drop p, p⟩
  | some n => if ctl ((l.drop p).take (n + 1)) then ⟨[33], (l.drop p).take (n + 1), p⟩ else ⟨[115], (l.drop p).take (n + 1), p⟩
theorem ctl_any (l : List UInt8) : ctl l ↔ l.any isCt = true := by
  unfold ctl
  rw [List.any_eq_true]
  constructor
  · rintro ⟨i, hi, h⟩
    refine ⟨l[i], List.getElem_mem hi, ?_⟩
    have e : bat l i = ((l[i].toNat : Nat) : Int) := by simp [bat, hi]
    rw [e] at h
    unfold isCt
    have h1 := byte_eq l[i] 127 (by decide)
    simp only [Bool.or_eq_true, beq_iff_eq]
    rw [show (127 : UInt8) = UInt8.ofNat 127 from rfl, h1]
    rcases h with h | h
    · left; simp [Nat.blt]; omega
    · right; omega
  · rintro ⟨c, hc, h⟩
    obtain ⟨i, hi, rfl⟩ := List.getElem_of_mem hc
    refine ⟨i, hi, ?_⟩
    have e : bat l i = ((l[i].toNat : Nat) : Int) := by simp [bat, hi]
    rw [e]
    unfold isCt at h
    have h1 := byte_eq l[i] 127 (by decide)
    simp only [Bool.or_eq_true, beq_iff_eq] at h
    rw [show (127 : UInt8) = UInt8.ofNat 127 from rfl, h1] at h
    rcases h with h | h
    · left; simp [Nat.blt] at h; omega
    · right; omega
theorem qlen_nil : qlen [] = none := rfl
theorem qlen_other {c : UInt8} {r : List UInt8} (h : ¬ c = 34) : qlen (c :: r) = (qlen r).map (· + 1) := by rw [qlen.eq_def]; simp [h]
theorem qlen_two {r : List UInt8} : qlen (34 :: 34 :: r) = (qlen r).map (· + 2) := by rw [qlen.eq_def]; simp
theorem qlen_one {c : UInt8} {r : List UInt8} (h : ¬ c = 34) : qlen (34 :: c :: r) = some 1 := by rw [qlen.eq_def]; simp [h]
theorem qlen_last : qlen [34] = some 1 := by rw [qlen.eq_def]; simp
set_option maxRecDepth 100000 in
set_option maxHeartbeats 4000000 in
theorem quoted_fn {H : Hp} {l : List UInt8} {p : Nat} (hl : l.length < 4611686018427387904) (hp : p < l.length) :
    Fn Tryz.prog 130 [sv l, .int .i64 p] H [] fun v H' I => v = .agg (tcs (quoT l p)).toArray ∧ H' = H ∧ I = [] := by
  refine Fn_of _ _ Tryz.func130 rfl Tryz.ntmps130 rfl fun c => ?_
  repeat' (first | refine O_nil ?_ | refine A_seq ?_ | refine A_region ?_ | refine A_block ?_ | (show opsA _ _ _ _ _ _ _; first | refine O_ev WideF.wide rfl (Ev_pure rfl) rfl rfl ?_ | (show opsA _ _ _ _ (⟨_, .binOp _ _ _ _ _, _, _, _, _⟩ :: _) _ _; refine O_ev WideF.wide rfl (Ev_add rfl rfl (wi64 (by omega))) rfl rfl ?_) | (show opsA _ _ _ _ (⟨_, .alloc _, _, _, _, _⟩ :: _) _ _; (refine O_ef rfl (Ef_alloc WideF.wide rfl ?_); intro b))))
  refine A_loopu (fun q s => ∃ (to b : Nat) (cs : List Value), q = l.length - to ∧ p < to ∧ to ≤ l.length ∧ cs.length = 3 ∧ qlen (l.drop (p + 1)) = (qlen (l.drop to)).map (· + (to - (p + 1))) ∧ s = ⟨51, [(0, sv l), (1, .int .i64 p), (4, .pointer (some ⟨b, 0, none⟩)), (5, .int .i64 to)], H, [.box b cs], [], []⟩) ?_ ?_
  · exact Shift.to ⟨_, p + 1, _, _, rfl, by omega, by omega, rfl, by simp, rfl⟩ ⟨rfl, rfl, rfl, ⟨rfl, rfl, rfl, rfl, trivial⟩, Own.subi [0] (by decide) rfl rfl⟩
  rintro q s ⟨to, b, cs, rfl, hpt, htl, hcs, hq, rfl⟩
  obtain ⟨c1, c2, c3, rfl⟩ : ∃ c1 c2 c3, cs = [c1, c2, c3] := by
    match cs, hcs with
    | [x, y, z], _ => exact ⟨x, y, z, rfl⟩
  have b34 : ∀ c : UInt8, c = 34 ↔ c.toNat = 34 := fun c => byte_eq c 34 (by decide)
  by_cases hlt : to < l.length
  · obtain ⟨c, hc1, hc2, hc3⟩ := get_byte l to hlt
    by_cases hc : c = 34
    · subst hc
      have hb34 : bat l to = 34 := hc2
      have hend : qlen (l.drop to) = some 1 → quoT l p = (if ctl ((l.take (to + 1)).drop p) then ⟨[33], (l.take (to + 1)).drop p, p⟩ else ⟨[115], (l.take (to + 1)).drop p, p⟩) := fun h => by
        unfold quoT
        rw [hq, h]
        simp only [Option.map_some]
        have e1 : (l.drop p).take (1 + (to - (p + 1)) + 1) = (l.take (to + 1)).drop p := by
          rw [List.drop_take]; congr 1; omega
        rw [e1]
      have hctl := control_fn (H := H) (l := (l.take (to + 1)).drop p) (by simp; omega)
      by_cases hlt2 : to + 1 < l.length
      · obtain ⟨d, hd1, hd2, hd3⟩ := get_byte l (to + 1) hlt2
        by_cases hd : d = 34
        · subst hd
          have hd34 : bat l ((to : Int) + 1) = 34 := hd2
          have hstep : qlen (l.drop to) = (qlen (l.drop (to + 2))).map (· + 2) := by rw [hc3, hd3, qlen_two]
          repeat' (first | refine O_nil ?_ | refine A_seq ?_ | refine A_region ?_ | refine A_skip ?_ | refine A_block ?_ | (show opsA _ _ _ _ _ _ _; first | (refine O_split rfl rfl (fun h => ?_) (fun h => ?_) <;> try (exfalso; omega)) | refine O_ev WideF.wide rfl (Ev_pure rfl) rfl rfl ?_ | (show opsA _ _ _ _ (⟨_, .call _, _, _, _, _⟩ :: _) _ _; refine O_ev WideF.wide rfl (Ev_slen rfl) rfl rfl ?_) | (show opsA _ _ _ _ (⟨_, .binOp _ _ _ _ _, _, _, _, _⟩ :: _) _ _; refine O_ev WideF.wide rfl (Ev_add rfl rfl (wi64 (by omega))) rfl rfl ?_) | (show opsA _ _ _ _ (⟨_, .index _ _ _, _, _, _, _⟩ :: _) _ _; refine O_ev WideF.wide rfl (Ev_sindex rfl rfl (by omega) (by omega)) rfl rfl ?_)) | (show wpA _ _ _ (.exit _) _ _ _ _; refine A_exit rfl ?_) | (show wpA _ _ _ (.cond _ _ _) _ _ _ _; (refine A_if rfl (fun h => ?_) (fun h => ?_) <;> try (exfalso; omega))))
          all_goals first
            | (exfalso; omega)
            | exact Shift.to ⟨_, by omega, to + 2, _, _, rfl, by omega, by omega, rfl, by rw [hq, hstep, Option.map_map]; congr 1; funext n; simp only [Function.comp]; omega, rfl⟩ ⟨rfl, rfl, rfl, ⟨rfl, rfl, rfl, rfl, trivial⟩, Own.subi [0] (by decide) rfl rfl⟩
            | trace_state
        · have hd34 : ¬ bat l ((to : Int) + 1) = 34 := fun h9 => hd ((b34 d).2 (by have : bat l (((to + 1 : Nat)) : Int) = 34 := h9; omega))
          have hstep : qlen (l.drop to) = some 1 := by rw [hc3, hd3, qlen_one hd]
          have he := hend hstep
          by_cases hk : ctl ((l.take (to + 1)).drop p) <;> simp only [hk, if_true, if_false, decide_true, decide_false] at he hctl
          all_goals
            rw [he]
            repeat' (first | (refine O_ef rfl (Ef_callp WideF.wide (hctl) ⟨rfl, trivial⟩ rfl ?_)) | refine O_nil ?_ | refine A_seq ?_ | refine A_region ?_ | refine A_skip ?_ | refine A_ret ?_ | refine A_block ?_ | (show opsA _ _ _ _ _ _ _; first | (refine O_split rfl rfl (fun h => ?_) (fun h => ?_) <;> try (exfalso; omega)) | refine O_ev WideF.wide rfl (Ev_pure rfl) rfl rfl ?_ | (show opsA _ _ _ _ (⟨_, .call _, _, _, _, _⟩ :: _) _ _; refine O_ev WideF.wide rfl (Ev_slen rfl) rfl rfl ?_) | (show opsA _ _ _ _ (⟨_, .binOp _ _ _ _ _, _, _, _, _⟩ :: _) _ _; refine O_ev WideF.wide rfl (Ev_add rfl rfl (wi64 (by omega))) rfl rfl ?_) | (show opsA _ _ _ _ (⟨_, .index _ _ _, _, _, _, _⟩ :: _) _ _; refine O_ev WideF.wide rfl (Ev_sindex rfl rfl (by omega) (by omega)) rfl rfl ?_) | (show opsA _ _ _ _ (⟨_, .slice _ _ _ _ _, _, _, _, _⟩ :: _) _ _; refine O_ev WideF.wide rfl (Ev_sslice rfl rfl rfl (by omega) (by omega) (by omega)) rfl rfl ?_) | (show opsA _ _ _ _ (⟨_, .build _ _, _, _, _, _⟩ :: _) _ _; refine O_ev WideF.wide rfl (Ev_build (vs := [(_, _), (_, _), (_, _)]) ⟨rfl, rfl, rfl, rfl, rfl, rfl, trivial⟩ rfl) rfl rfl ?_) | (show opsA _ _ _ _ (⟨_, .store _ _ _, _, _, _, _⟩ :: _) _ _; refine O_ef rfl (Ef_storew WideF.wide rfl rfl rfl rfl rfl ?_))) | (show wpA _ _ _ (.cond _ _ _) _ _ _ _; first | (refine A_if rfl (fun h => ?_) (fun h => ?_) <;> try (exfalso; omega)) | refine A_iftrue rfl ?_ | refine A_iffalse rfl ?_))
            all_goals first
              | (exfalso; omega)
              | exact End_e (RetC rfl rfl (i := 0) rfl rfl) ⟨rfl, rfl, rfl⟩
              | trace_state
      · have hstep : qlen (l.drop to) = some 1 := by rw [hc3, List.drop_of_length_le (by omega), qlen_last]
        have he := hend hstep
        by_cases hk : ctl ((l.take (to + 1)).drop p) <;> simp only [hk, if_true, if_false, decide_true, decide_false] at he hctl
        all_goals
          rw [he]
          repeat' (first | (refine O_ef rfl (Ef_callp WideF.wide (hctl) ⟨rfl, trivial⟩ rfl ?_)) | refine O_nil ?_ | refine A_seq ?_ | refine A_region ?_ | refine A_skip ?_ | refine A_ret ?_ | refine A_block ?_ | (show opsA _ _ _ _ _ _ _; first | (refine O_split rfl rfl (fun h => ?_) (fun h => ?_) <;> try (exfalso; omega)) | refine O_ev WideF.wide rfl (Ev_pure rfl) rfl rfl ?_ | (show opsA _ _ _ _ (⟨_, .call _, _, _, _, _⟩ :: _) _ _; refine O_ev WideF.wide rfl (Ev_slen rfl) rfl rfl ?_) | (show opsA _ _ _ _ (⟨_, .binOp _ _ _ _ _, _, _, _, _⟩ :: _) _ _; refine O_ev WideF.wide rfl (Ev_add rfl rfl (wi64 (by omega))) rfl rfl ?_) | (show opsA _ _ _ _ (⟨_, .index _ _ _, _, _, _, _⟩ :: _) _ _; refine O_ev WideF.wide rfl (Ev_sindex rfl rfl (by omega) (by omega)) rfl rfl ?_) | (show opsA _ _ _ _ (⟨_, .slice _ _ _ _ _, _, _, _, _⟩ :: _) _ _; refine O_ev WideF.wide rfl (Ev_sslice rfl rfl rfl (by omega) (by omega) (by omega)) rfl rfl ?_) | (show opsA _ _ _ _ (⟨_, .build _ _, _, _, _, _⟩ :: _) _ _; refine O_ev WideF.wide rfl (Ev_build (vs := [(_, _), (_, _), (_, _)]) ⟨rfl, rfl, rfl, rfl, rfl, rfl, trivial⟩ rfl) rfl rfl ?_) | (show opsA _ _ _ _ (⟨_, .store _ _ _, _, _, _, _⟩ :: _) _ _; refine O_ef rfl (Ef_storew WideF.wide rfl rfl rfl rfl rfl ?_)) | refine O_skip WideF.wide rfl rfl rfl ?_) | (show wpA _ _ _ (.cond _ _ _) _ _ _ _; first | (refine A_if rfl (fun h => ?_) (fun h => ?_) <;> try (exfalso; omega)) | refine A_iftrue rfl ?_ | refine A_iffalse rfl ?_))
          all_goals first
            | (exfalso; omega)
            | exact End_e (RetC rfl rfl (i := 0) rfl rfl) ⟨rfl, rfl, rfl⟩
            | trace_state
    · have hb34 : ¬ bat l to = 34 := fun h9 => hc ((b34 c).2 (by omega))
      have hstep : qlen (l.drop to) = (qlen (l.drop (to + 1))).map (· + 1) := by rw [hc3, qlen_other hc]
      repeat' (first | refine O_nil ?_ | refine A_seq ?_ | refine A_region ?_ | refine A_skip ?_ | refine A_block ?_ | (show opsA _ _ _ _ _ _ _; first | refine O_ev WideF.wide rfl (Ev_pure rfl) rfl rfl ?_ | (show opsA _ _ _ _ (⟨_, .call _, _, _, _, _⟩ :: _) _ _; refine O_ev WideF.wide rfl (Ev_slen rfl) rfl rfl ?_) | (show opsA _ _ _ _ (⟨_, .binOp _ _ _ _ _, _, _, _, _⟩ :: _) _ _; refine O_ev WideF.wide rfl (Ev_add rfl rfl (wi64 (by omega))) rfl rfl ?_) | (show opsA _ _ _ _ (⟨_, .index _ _ _, _, _, _, _⟩ :: _) _ _; refine O_ev WideF.wide rfl (Ev_sindex rfl rfl (by omega) (by omega)) rfl rfl ?_)) | (show wpA _ _ _ (.exit _) _ _ _ _; refine A_exit rfl ?_) | (show wpA _ _ _ (.cond _ _ _) _ _ _ _; (refine A_if rfl (fun h => ?_) (fun h => ?_) <;> try (exfalso; omega))))
      all_goals first
        | (exfalso; omega)
        | exact Shift.to ⟨_, by omega, to + 1, _, _, rfl, by omega, by omega, rfl, by rw [hq, hstep, Option.map_map]; congr 1; funext n; simp only [Function.comp]; omega, rfl⟩ ⟨rfl, rfl, rfl, ⟨rfl, rfl, rfl, rfl, trivial⟩, Own.subi [0] (by decide) rfl rfl⟩
        | trace_state
  · obtain rfl : to = l.length := by omega
    have he : quoT l p = ⟨[33], l.drop p, p⟩ := by unfold quoT; rw [hq, List.drop_length, qlen_nil]; rfl
    rw [he]
    repeat' (first | refine O_nil ?_ | refine A_seq ?_ | refine A_region ?_ | refine A_ret ?_ | (show opsA _ _ _ _ _ _ _; first | refine O_ev WideF.wide rfl (Ev_pure rfl) rfl rfl ?_ | (show opsA _ _ _ _ (⟨_, .call _, _, _, _, _⟩ :: _) _ _; refine O_ev WideF.wide rfl (Ev_slen rfl) rfl rfl ?_) | (show opsA _ _ _ _ (⟨_, .slice _ _ _ _ _, _, _, _, _⟩ :: _) _ _; refine O_ev WideF.wide rfl (Ev_sslicel rfl rfl (by omega) (by omega)) rfl rfl ?_) | (show opsA _ _ _ _ (⟨_, .build _ _, _, _, _, _⟩ :: _) _ _; refine O_ev WideF.wide rfl (Ev_build (vs := [(_, _), (_, _), (_, _)]) ⟨rfl, rfl, rfl, rfl, rfl, rfl, trivial⟩ rfl) rfl rfl ?_) | (show opsA _ _ _ _ (⟨_, .store _ _ _, _, _, _, _⟩ :: _) _ _; refine O_ef rfl (Ef_storew WideF.wide rfl rfl rfl rfl rfl ?_))) | (show wpA _ _ _ (.exit _) _ _ _ _; refine A_exit rfl ?_) | (show wpA _ _ _ (.cond _ _ _) _ _ _ _; (refine A_if rfl (fun h => ?_) (fun h => ?_) <;> try (exfalso; omega))))
    all_goals first
      | (exfalso; omega)
      | exact End_e (RetC rfl rfl (i := 0) rfl rfl) ⟨rfl, rfl, rfl⟩
      | trace_state
end Go.Proofs.YtnoadopmeoohmaaGreatDoor
