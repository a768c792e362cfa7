/-
  The law's example. Printed by genU15.py.
-/
import Derived.Test.YtofkolbnhcckkaaGreatU14
namespace Go.Proofs.YtofkolbnhcckkaaGreat
open Go
set_option linter.unusedVariables false
set_option linter.unusedSimpArgs false
theorem chars_ascii : ∀ l : List UInt8, (∀ b ∈ l, b.toNat < 128) → chars l = some (l.map fun b => [b])
  | [], _ => chars_nil
  | c :: r, h => by
    have hc := h c (by simp)
    have hb : bat (c :: r) 0 = (c.toNat : Int) := rfl
    have ht : tailSize (bat (c :: r) 0) = 1 := by rw [hb]; exact tailSize_lt (by omega)
    have he : enc (c :: r) 0 = 1 := by unfold enc; rw [ht, hb]; simp; omega
    rw [chars_step (by simp) (by rw [he]; decide), he]
    show (chars r).map ([c] :: ·) = _
    rw [chars_ascii r fun b hb => h b (List.mem_cons_of_mem _ hb)]
    rfl
def Asc (l : List UInt8) : Prop := ∀ b ∈ l, b.toNat < 128
theorem Asc.valid {l : List UInt8} (h : Asc l) : valid l := by unfold Go.Proofs.YtofkolbnhcckkaaGreat.valid; rw [chars_ascii l h]; rfl
theorem Asc.count {l : List UInt8} (h : Asc l) : count l = l.length := by
  unfold Go.Proofs.YtofkolbnhcckkaaGreat.count
  rw [if_pos h.valid]
  unfold nchars
  rw [chars_ascii l h]
  simp
theorem itT_norm {t : List UInt8} (ht : t ≠ []) : [itT t] = normL [itT t] := by
  have e : normItem (itT t) = itT t := by rw [normItem_eq]; rfl
  unfold normL
  rw [List.map_cons, List.map_nil, e]
  show _ = pushI [] (itT t)
  unfold pushI
  rw [if_neg (by
    rintro (⟨h, _⟩ | ⟨_, h⟩)
    · have h : (1 : Int) = 7 := h
      omega
    · exact ht h)]
  rfl
theorem itT_ok {t : List UInt8} (h : Asc t) : okL [itT t] := by
  intro x hx
  rw [List.mem_singleton] at hx
  subst hx
  intro _
  exact h.valid
theorem tx_size {t : List UInt8} (h : Asc t) : size 1 (txP t) = t.length := by
  unfold size txP
  rw [if_pos rfl]
  by_cases ht : t = []
  · rw [if_pos ht, ht]; rfl
  · rw [if_neg ht]
    show lenV [itT t] = _
    unfold lenV
    rw [if_pos (itT_ok h)]
    have : (itT t).units = t.length := by
      show (if (1 : Int) = 1 then count t else 1) = _
      rw [if_pos rfl, h.count]
    simp [usum, this]
theorem normL_nil' : ([] : List Item) = normL [] := by rfl
theorem tx_chk {t : List UInt8} (h : Asc t) : chkP (txP t) = 0 := by
  unfold chkP txP
  by_cases ht : t = []
  · rw [if_pos ht]
    have h1 : lenE zPiece.items = 0 := if_pos (fun x hx => by cases hx)
    have h2 : badPiece zPiece = false := by
      unfold badPiece
      have e : (decide (¬ zPiece.items = normL zPiece.items)) = false := decide_eq_false (fun hh => hh normL_nil')
      rw [e]; rfl
    rw [if_neg (by rw [h1]; simp), if_neg (by rw [h2]; simp)]
  · rw [if_neg ht]
    have h1 : lenE [itT t] = 0 := if_pos (itT_ok h)
    have h2 : badPiece ⟨[itT t], [], [], head0, sett0⟩ = false := by
      unfold badPiece
      have e : (decide (¬ [itT t] = normL [itT t])) = false := decide_eq_false (fun hh => hh (itT_norm ht))
      dsimp only
      rw [e]; rfl
    rw [if_neg (by show ¬ lenE [itT t] ≠ 0; rw [h1]; simp), if_neg (by rw [h2]; simp)]
theorem tx_spare {t : List UInt8} : ¬ spareP 1 (txP t) := by
  unfold spareP txP
  by_cases ht : t = []
  · rw [if_pos ht]; simp [zPiece]
  · rw [if_neg ht]; simp
theorem put_chk {a : Int} {o n : List UInt8} (h1 : Asc o) (h2 : Asc n) : chk (putS a o n) = 0 := by
  unfold chk
  have hf : ¬ fmtP (putS a o n) := by
    unfold fmtP
    simp only [putS]
    have := tx_spare (t := o)
    have := tx_spare (t := n)
    simp [*]
  rw [if_neg (by simp [putS]), if_neg hf]
  simp only [putS, tx_chk h1, tx_chk h2]
  simp
theorem tx_ids {t : List UInt8} : idsP (txP t) = [] := by
  unfold txP
  split
  · rfl
  · rfl
theorem put_mvd {a b : Int} {o n p q : List UInt8} {first : Bool} (h1 : Asc o) (h3 : Asc p) (h4 : Asc q) : mvd (putS a o n) (putS b p q) first = (rOver a o.length b p.length q.length first).map fun y => (y, 0) := by
  have hc : ¬ clash (putS a o n) (putS b p q) := by
    unfold clash meet
    simp [putS, tx_ids]
  unfold mvd
  rw [if_neg (by simp [putS]), if_neg hc, if_neg (by simp [putS]), if_pos (by simp [putS])]
  simp only [putS, tx_size h1, tx_size h3, tx_size h4]
theorem put_ov {a b y : Int} {o n p q : List UInt8} {first : Bool} (h1 : Asc o) (h2 : Asc n) (h3 : Asc p) (h4 : Asc q) (ha : 0 ≤ a ∧ a ≤ 1000) (hb : 0 ≤ b ∧ b ≤ 1000) (hr : rOver a o.length b p.length q.length first = some y) :
    ovE (putS a o n) (putS b p q) first = 0 ∧ ovS (putS a o n) (putS b p q) first = putS y o n := by
  have hm : mvd (putS a o n) (putS b p q) first = some (y, 0) := by rw [put_mvd h1 h3 h4, hr]; rfl
  have he : ovE (putS a o n) (putS b p q) first = 0 := by
    unfold ovE
    rw [if_neg (by simp [put_chk h1 h2]), if_neg (by simp [put_chk h3 h4]), if_neg (by unfold farP; simp only [putS]; omega), if_neg (by rw [hm]; simp)]
  exact ⟨he, by rw [ovS_ok he hm]; rfl⟩
def sB : List UInt8 := [98, 99]
def sX : List UInt8 := [88]
def sE : List UInt8 := [101, 102]
def sy : List UInt8 := [121]
def sx : List UInt8 := [120]
theorem aB : Asc sB := by unfold Asc sB; decide
theorem aX : Asc sX := by unfold Asc sX; decide
theorem aE : Asc sE := by unfold Asc sE; decide
theorem ay : Asc sy := by unfold Asc sy; decide
theorem ax : Asc sx := by unfold Asc sx; decide
theorem a0 : Asc [] := fun b hb => by cases hb
abbrev S1 : Splice := putS 1 sB sX
abbrev S2 : Splice := putS 4 sE []
abbrev S3 : Splice := putS 2 [] sy
abbrev S4 : Splice := putS 2 [] sx
theorem o21 (first : Bool) : ovE S2 S1 first = 0 ∧ ovS S2 S1 first = putS 3 sE [] := put_ov aE a0 aB aX (by decide) (by decide) (by cases first <;> rfl)
theorem o12 (first : Bool) : ovE S1 S2 first = 0 ∧ ovS S1 S2 first = putS 1 sB sX := put_ov aB aX aE a0 (by decide) (by decide) (by cases first <;> rfl)
theorem o34f : ovE S3 S4 false = 0 ∧ ovS S3 S4 false = putS 3 [] sy := put_ov a0 ay a0 ax (by decide) (by decide) rfl
theorem o34t : ovE S3 S4 true = 0 ∧ ovS S3 S4 true = putS 2 [] sy := put_ov a0 ay a0 ax (by decide) (by decide) rfl
theorem ind12 : indB S1 S2 = true := by
  unfold indB sameB
  rw [(o12 true).1, (o12 false).1, (o12 true).2, (o12 false).2, (o21 true).1, (o21 false).1, (o21 true).2, (o21 false).2]
  simp
theorem ind34 : indB S3 S4 = false := by
  unfold indB sameB
  rw [o34t.1, o34f.1, o34t.2, o34f.2]
  have : ¬ putS 2 [] sy = putS 3 [] sy := fun h => by
    have := congrArg Splice.at_ h
    simp [putS] at this
  simp [this]
attribute [local irreducible] wpA opsA drJ drQ drE Ef Ev Shift Fn
/-- what known needs of Over -/
theorem Over_at {H : Hp} {cs cs' : List Value} {s t r : Splice} {first : Bool} (hx : SplH H cs s) (hx' : SplH H cs' t) (hm : s.fine) (hm' : t.fine) (ho : ovE s t first = 0 ∧ ovS s t first = r) :
    Fn Tryz.prog 7 [.agg cs.toArray, .agg cs'.toArray, .bool first] H [] fun v H' I => (∃ cs : List Value, v = .tuple [.agg cs.toArray, .int .i64 0].toArray ∧ SplH H' cs r) ∧ I = [] :=
  (Over_fn (first := first) hx hx' hm hm').mono fun v H' I' h => by
    obtain ⟨⟨cs, h1, h2⟩, h3⟩ := h
    rw [ho.1] at h1
    rw [ho.2] at h2
    exact ⟨⟨cs, h1, h2⟩, h3⟩
set_option maxRecDepth 100000 in
set_option maxHeartbeats 8000000 in
theorem known_fn {H : Hp} : Fn Tryz.prog 5 [] H [] fun v _ I => v = .bool true ∧ I = [] := by
  have f1 : S1.fine := putS_fine (by decide) (by decide)
  have f2 : S2.fine := putS_fine (by decide) (by decide)
  have f3 : S3.fine := putS_fine (by decide) (by decide)
  have f4 : S4.fine := putS_fine (by decide) (by decide)
  have p1 := fun Hx => put_fn (H := Hx) (a := 1) (o := sB) (n := sX)
  have p2 := fun Hx => put_fn (H := Hx) (a := 4) (o := sE) (n := [])
  have p3 := fun Hx => put_fn (H := Hx) (a := 2) (o := []) (n := sy)
  have p4 := fun Hx => put_fn (H := Hx) (a := 2) (o := []) (n := sx)
  have i1 := fun Hx cs cs' (h : SplH Hx cs S1) (h' : SplH Hx cs' S2) => Independent_fn h h' f1 f2
  rw [ind12] at i1
  have i2 := fun Hx cs cs' (h : SplH Hx cs S3) (h' : SplH Hx cs' S4) => Independent_fn h h' f3 f4
  rw [ind34] at i2
  refine Fn_of _ _ Tryz.func5 rfl Tryz.ntmps5 rfl fun c => ?_

  repeat' (first | (refine O_ef rfl (Ef_call (I := []) WideF.wide (p1 _) ⟨rfl, rfl, rfl, trivial⟩ rfl ?_); rintro v H1 I1 hle1 ⟨⟨cs1, rfl, s1⟩, rfl⟩); obtain ⟨s1o, s1n, rfl, s1y, s1z⟩ := s1.ex; obtain ⟨xa1, xa2, xa3, xa4, xa5, xa6, xa7, xa8, xa9, xa10, xa11, xa12, rfl⟩ := list12 s1y.one.1; obtain ⟨xb1, xb2, xb3, xb4, xb5, xb6, xb7, xb8, xb9, xb10, xb11, xb12, rfl⟩ := list12 s1z.one.1 | (refine O_ef rfl (Ef_call (I := []) WideF.wide (p2 _) ⟨rfl, rfl, rfl, trivial⟩ rfl ?_); rintro v H2 I2 hle2 ⟨⟨cs2, rfl, s2⟩, rfl⟩); have s1 := s1.mono hle2; obtain ⟨s2o, s2n, rfl, s2y, s2z⟩ := s2.ex; obtain ⟨xc1, xc2, xc3, xc4, xc5, xc6, xc7, xc8, xc9, xc10, xc11, xc12, rfl⟩ := list12 s2y.one.1; obtain ⟨xd1, xd2, xd3, xd4, xd5, xd6, xd7, xd8, xd9, xd10, xd11, xd12, rfl⟩ := list12 s2z.one.1 | (refine O_f1 (O_ef rfl (Ef_storew WideF.wide rfl rfl rfl (List.all_eq_true.2 s1.one.2) rfl ?_))) | (refine O_f1 (O_ef rfl (Ef_storew WideF.wide rfl rfl rfl (List.all_eq_true.2 s2.one.2) rfl ?_))) | (refine O_ef rfl (Ef_storew WideF.wide rfl rfl rfl (List.all_eq_true.2 s5.one.2) rfl ?_)) | (refine O_ef rfl (Ef_storew WideF.wide rfl rfl rfl (List.all_eq_true.2 s6.one.2) rfl ?_)) | (refine O_ef rfl (Ef_storew WideF.wide rfl rfl rfl (List.all_eq_true.2 s7.one.2) rfl ?_)) | (refine O_ef rfl (Ef_call (I := []) WideF.wide (Over_at s2 s1 f2 f1 (o21 true)) ⟨rfl, rfl, rfl, trivial⟩ rfl ?_); rintro v H5 I5 hle5 ⟨⟨cs5, rfl, s5⟩, rfl⟩); have s1 := s1.mono hle5; have s2 := s2.mono hle5; obtain ⟨s5o, s5n, rfl, s5y, s5z⟩ := s5.ex; obtain ⟨xe1, xe2, xe3, xe4, xe5, xe6, xe7, xe8, xe9, xe10, xe11, xe12, rfl⟩ := list12 s5y.one.1; obtain ⟨xf1, xf2, xf3, xf4, xf5, xf6, xf7, xf8, xf9, xf10, xf11, xf12, rfl⟩ := list12 s5z.one.1 | (refine O_ef rfl (Ef_call (I := []) WideF.wide (Over_at s1 s2 f1 f2 (o12 true)) ⟨rfl, rfl, rfl, trivial⟩ rfl ?_); rintro v H6 I6 hle6 ⟨⟨cs6, rfl, s6⟩, rfl⟩); have s1 := s1.mono hle6; have s2 := s2.mono hle6; obtain ⟨s6o, s6n, rfl, s6y, s6z⟩ := s6.ex; obtain ⟨xg1, xg2, xg3, xg4, xg5, xg6, xg7, xg8, xg9, xg10, xg11, xg12, rfl⟩ := list12 s6y.one.1; obtain ⟨xh1, xh2, xh3, xh4, xh5, xh6, xh7, xh8, xh9, xh10, xh11, xh12, rfl⟩ := list12 s6z.one.1 | (refine O_ef rfl (Ef_call (I := []) WideF.wide (p3 _) ⟨rfl, rfl, rfl, trivial⟩ rfl ?_); rintro v H3 I3 hle3 ⟨⟨cs3, rfl, s3⟩, rfl⟩); have s1 := s1.mono hle3; have s2 := s2.mono hle3; obtain ⟨s3o, s3n, rfl, s3y, s3z⟩ := s3.ex; obtain ⟨xi1, xi2, xi3, xi4, xi5, xi6, xi7, xi8, xi9, xi10, xi11, xi12, rfl⟩ := list12 s3y.one.1; obtain ⟨xj1, xj2, xj3, xj4, xj5, xj6, xj7, xj8, xj9, xj10, xj11, xj12, rfl⟩ := list12 s3z.one.1 | (refine O_ef rfl (Ef_call (I := []) WideF.wide (p4 _) ⟨rfl, rfl, rfl, trivial⟩ rfl ?_); rintro v H4 I4 hle4 ⟨⟨cs4, rfl, s4⟩, rfl⟩); have s1 := s1.mono hle4; have s2 := s2.mono hle4; have s3 := s3.mono hle4; obtain ⟨s4o, s4n, rfl, s4y, s4z⟩ := s4.ex; obtain ⟨xk1, xk2, xk3, xk4, xk5, xk6, xk7, xk8, xk9, xk10, xk11, xk12, rfl⟩ := list12 s4y.one.1; obtain ⟨xl1, xl2, xl3, xl4, xl5, xl6, xl7, xl8, xl9, xl10, xl11, xl12, rfl⟩ := list12 s4z.one.1 | (refine O_ef rfl (Ef_call (I := []) WideF.wide (Over_at s3 s4 f3 f4 o34f) ⟨rfl, rfl, rfl, trivial⟩ rfl ?_); rintro v H7 I7 hle7 ⟨⟨cs7, rfl, s7⟩, rfl⟩); have s1 := s1.mono hle7; have s2 := s2.mono hle7; obtain ⟨s7o, s7n, rfl, s7y, s7z⟩ := s7.ex; obtain ⟨xm1, xm2, xm3, xm4, xm5, xm6, xm7, xm8, xm9, xm10, xm11, xm12, rfl⟩ := list12 s7y.one.1; obtain ⟨xn1, xn2, xn3, xn4, xn5, xn6, xn7, xn8, xn9, xn10, xn11, xn12, rfl⟩ := list12 s7z.one.1 | (refine O_ef rfl (Ef_call (I := []) WideF.wide (i1 _ _ _ s1 s2) ⟨rfl, rfl, trivial⟩ rfl ?_); rintro v H8 I8 hle8 ⟨rfl, rfl⟩); have s1 := s1.mono hle8; have s2 := s2.mono hle8 | (refine O_ef rfl (Ef_call (I := []) WideF.wide (i2 _ _ _ s3 s4) ⟨rfl, rfl, trivial⟩ rfl ?_); rintro v H9 I9 hle9 ⟨rfl, rfl⟩) | refine O_nil ?_ | refine A_seq ?_ | refine A_region ?_ | refine A_ret ?_ | (show opsA _ _ _ _ _ _ _; first | (refine O_split rfl rfl (fun h => ?_) (fun h => ?_) <;> try (exfalso; omega)) | refine O_ev WideF.wide rfl (Ev_pure rfl) rfl rfl ?_ | (show opsA _ _ _ _ (⟨_, .load _ _, _, _, _, _⟩ :: _) _ _; first | refine O_ev WideF.wide rfl (Ev_loadB1 (i := 0) rfl rfl rfl) rfl rfl ?_ | refine O_ev WideF.wide rfl (Ev_loadB1 (i := 1) rfl rfl rfl) rfl rfl ?_ | refine O_ev WideF.wide rfl (Ev_loadB1 (i := 2) rfl rfl rfl) rfl rfl ?_ | refine O_ev WideF.wide rfl (Ev_loadB (i := 0) rfl rfl rfl) rfl rfl ?_ | refine O_ev WideF.wide rfl (Ev_loadB (i := 1) rfl rfl rfl) rfl rfl ?_ | refine O_ev WideF.wide rfl (Ev_loadB (i := 2) rfl rfl rfl) rfl rfl ?_ | refine O_ev WideF.wide rfl (Ev_loadB (i := 3) rfl rfl rfl) rfl rfl ?_ | refine O_ev WideF.wide rfl (Ev_loadB (i := 4) rfl rfl rfl) rfl rfl ?_) | (show opsA _ _ _ _ (⟨_, .fieldAddr _ _ _, _, _, _, _⟩ :: _) _ _; refine O_ev WideF.wide rfl (Ev_fieldAddr rfl rfl rfl) rfl rfl ?_) | (show opsA _ _ _ _ (⟨_, .unOp _ _ _, _, _, _, _⟩ :: _) _ _; refine O_ev WideF.wide rfl (Ev_notb rfl) rfl rfl ?_) | (show opsA _ _ _ _ (⟨_, .alloc _, _, _, _, _⟩ :: _) _ _; (refine O_ef rfl (Ef_alloc WideF.wide rfl ?_); intro b)) | refine O_skip WideF.wide rfl rfl rfl ?_))
  all_goals first
    | (exfalso; omega)
    | exact End_e (Ret1 rfl rfl) ⟨rfl, rfl⟩
    | (exfalso; exact absurd trivial (by assumption))
    | (exfalso; exact absurd rfl (by assumption))
    | trace_state

end Go.Proofs.YtofkolbnhcckkaaGreat
