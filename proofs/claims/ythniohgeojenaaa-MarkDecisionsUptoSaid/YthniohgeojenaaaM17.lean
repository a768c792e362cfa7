/-
  The law's example.
-/
import Derived.Test.YthniohgeojenaaaM16
namespace Go.Proofs.Ythniohgeojenaaa
open Go
set_option linter.unusedVariables false
set_option linter.unusedSimpArgs false
def exH : Head := ⟨[⟨4, 1⟩], 0, 0, [], [⟨1, 4, 0, true⟩, ⟨2, 4, 1, true⟩, ⟨3, 4, 2, true⟩]⟩
def exX : Head := ⟨[], 3, 0, [⟨5, 0⟩], []⟩
theorem exL (acc rej : Int → Bool) : decL acc rej exH.props exH.layers exH.props [] = (withP exH.props 4 (stepG acc rej ⟨1, true⟩ exH.layers).1, (stepG acc rej ⟨1, true⟩ exH.layers).2) := by
  rw [decL_step (y := ⟨1, 4, 0, true⟩) (m := 3) rfl rfl]
  show decL _ _ _ [] _ _ = _
  rw [decL_nil]; rfl
theorem known_a : decH (Dec.accB ⟨[], [2]⟩) (Dec.rejB ⟨[], [2]⟩) exH = ⟨[⟨4, 1⟩], 0, 0, [], [⟨1, 4, 0, true⟩, ⟨3, 4, 1, true⟩]⟩ := by
  unfold decH; rw [exL]; decide
theorem known_b : decH (Dec.accB ⟨[2], [3]⟩) (Dec.rejB ⟨[2], [3]⟩) exH = ⟨[⟨4, 2⟩], 0, 0, [], []⟩ := by
  unfold decH; rw [exL]; decide
theorem known_ga : goneB (Dec.accB ⟨[], [2]⟩) (Dec.rejB ⟨[], [2]⟩) exH = false := by decide
theorem known_gb : goneB (Dec.accB ⟨[2], [3]⟩) (Dec.rejB ⟨[2], [3]⟩) exH = false := by decide
theorem known_gx : goneB (Dec.accB ⟨[5], []⟩) (Dec.rejB ⟨[5], []⟩) exX = true := by decide
attribute [local irreducible] wpA opsA drJ drQ drE Ef Ev Shift Fn
set_option maxRecDepth 100000 in
theorem example_fn {H : Hp} : Fn Try.prog 51 [] H [] (HeadIs exH) := by
  refine Fn_of _ _ Try.func51 rfl Try.ntmps51 rfl fun c => ?_
  repeat' (first | (refine O_ef rfl (Ef_buildn WideF.wide (k := 4) (xs := [_, _, _]) (vs := [_, _, _]) rfl ⟨rfl, rfl, rfl, trivial⟩ rfl rfl rfl rfl rfl rfl ?_); intro bb) | refine O_nil ?_ | refine A_seq ?_ | refine A_region ?_ | refine A_ret ?_ | (show opsA _ _ _ _ _ _ _; first | (show opsA _ _ _ _ (⟨_, .buildSlice _ _ _, _, _, _, _⟩ :: _) _ _; (refine O_ef rfl (Ef_build1a WideF.wide rfl rfl rfl rfl rfl ?_); intro b)) | (show opsA _ _ _ _ (⟨_, .build _ _, _, _, _, _⟩ :: _) _ _; first | refine O_ev WideF.wide rfl (Ev_build (vs := [(_, _)]) ⟨rfl, rfl, trivial⟩ rfl) rfl rfl ?_ | refine O_ev WideF.wide rfl (Ev_build (vs := [(_, _), (_, _)]) ⟨rfl, rfl, rfl, rfl, trivial⟩ rfl) rfl rfl ?_ | refine O_ev WideF.wide rfl (Ev_build (vs := [(_, _), (_, _), (_, _)]) ⟨rfl, rfl, rfl, rfl, rfl, rfl, trivial⟩ rfl) rfl rfl ?_ | refine O_ev WideF.wide rfl (Ev_build (vs := [(_, _), (_, _), (_, _), (_, _)]) ⟨rfl, rfl, rfl, rfl, rfl, rfl, rfl, rfl, trivial⟩ rfl) rfl rfl ?_) | (show opsA _ _ _ _ (⟨_, .alloc _, _, _, _, _⟩ :: _) _ _; (refine O_ef rfl (Ef_alloc WideF.wide rfl ?_); intro b)) | (show opsA _ _ _ _ (⟨_, .store _ _ _, _, _, _, _⟩ :: _) _ _; refine O_f2 (O_ef rfl (Ef_storew WideF.wide rfl rfl rfl rfl rfl ?_)))))
  refine End_s (RetC rfl rfl (i := 0) rfl rfl) ?_
  refine Shift.lek ⟨9, [], H, [.row (.slice (some ⟨bb, 0, none⟩) 3 3) 4 (exH.layers.map lrow), .row (.slice (some ⟨b, 0, none⟩) 1 1) 2 (exH.props.map prow)], [], []⟩ ⟨rfl, rfl, rfl, trivial, Own.subi [1, 2] (by decide) rfl rfl⟩ ?_
  exact Shift_freeze (lrow_one _) fun H2 hle2 hr2 => Shift_freeze (prow_one _) fun H3 hle3 hr3 => Shift.pure ⟨rfl, ⟨_, rfl, ⟨⟨_, _, _, none, 0, 0, _, _, _, rfl, hr3, HRow.nil' _ _, hr2.mono hle3⟩⟩⟩, rfl⟩
theorem inc1 (x : Int) : Inc [x] := by simp [Inc]
theorem inc0 : Inc [] := by simp [Inc]
theorem exH_inc : IncP exH.props := by simp [exH, IncP, Inc]
theorem exH_mass : exH.mass < 1073741824 := by decide
/-- how the known decisions answer -/
theorem dec_ka {H : Hp} {hcs : List Value} {a : Option Addr} {n c : Nat} (hh : HeadH H hcs exH) (hr : HRow H a n c 1 [irow 2]) : Fn Try.prog 15 [.agg hcs.toArray, .agg [.slice none 0 0, .slice a n c].toArray] H [] fun v H' I' => (∃ cs, v = .tuple [.agg cs.toArray, .bool true].toArray ∧ HeadH H' cs ⟨[⟨4, 1⟩], 0, 0, [], [⟨1, 4, 0, true⟩, ⟨3, 4, 1, true⟩]⟩) ∧ I' = [] := by
  have h := Decide_fn (d := ⟨[], [2]⟩) hh ⟨⟨none, 0, 0, a, n, c, rfl, HRow.nil' _ _, hr⟩⟩ exH_inc exH_mass inc0 (inc1 2) (by decide) (by decide)
  unfold DecideIs at h
  rw [known_ga, known_a] at h
  exact h
theorem dec_kb {H : Hp} {hcs : List Value} {a a' : Option Addr} {n c n' c' : Nat} (hh : HeadH H hcs exH) (hr' : HRow H a' n' c' 1 [irow 2]) (hr : HRow H a n c 1 [irow 3]) : Fn Try.prog 15 [.agg hcs.toArray, .agg [.slice a' n' c', .slice a n c].toArray] H [] fun v H' I' => (∃ cs, v = .tuple [.agg cs.toArray, .bool true].toArray ∧ HeadH H' cs ⟨[⟨4, 2⟩], 0, 0, [], []⟩) ∧ I' = [] := by
  have h := Decide_fn (d := ⟨[2], [3]⟩) hh ⟨⟨a', n', c', a, n, c, rfl, hr', hr⟩⟩ exH_inc exH_mass (inc1 2) (inc1 3) (by decide) (by decide)
  unfold DecideIs at h
  rw [known_gb, known_b] at h
  exact h
theorem dec_kx {H : Hp} {hcs : List Value} {a : Option Addr} {n c : Nat} (hh : HeadH H hcs exX) (hr : HRow H a n c 1 [irow 5]) : Fn Try.prog 15 [.agg hcs.toArray, .agg [.slice a n c, .slice none 0 0].toArray] H [] fun v H' I' => (∃ cs h', v = .tuple [.agg cs.toArray, .bool false].toArray ∧ HeadH H' cs h') ∧ I' = [] := by
  have h := Decide_fn (d := ⟨[5], []⟩) hh ⟨⟨a, n, c, none, 0, 0, rfl, hr, HRow.nil' _ _⟩⟩ (by simp [exX, IncP, Inc]) (by decide) (inc1 5) inc0 (by decide) (by decide)
  unfold DecideIs at h
  rw [known_gx] at h
  refine h.shift ?_
  rintro c w v H' I' hw ⟨⟨cs, hv, hcs⟩, hi⟩
  exact ⟨H', I', hw, ⟨cs, _, hv, hcs⟩, hi⟩
set_option maxRecDepth 100000 in
set_option maxHeartbeats 4000000 in
theorem known_fn {H : Hp} : Fn Try.prog 17 [] H [] fun v _ I' => v = .bool true ∧ I' = [] := by
  refine Fn_of _ _ Try.func17 rfl Try.ntmps17 rfl fun c => ?_
  refine A_seq ?_
  refine A_cutu (fun s => s = ⟨87, [(0, .bool false)], H, [], [], []⟩) ?_ ?_
  · repeat' (first | refine O_nil ?_ | refine A_region ?_ | (show opsA _ _ _ _ _ _ _; refine O_ev WideF.wide rfl (Ev_pure rfl) rfl rfl ?_))
    exact Shift.to rfl ⟨rfl, rfl, rfl, ⟨rfl, trivial⟩, Own.sub_nil _⟩
  rintro s rfl
  refine A_seq ?_
  refine A_cutu (fun s => ∃ (H1 : Hp) (cs : List Value) (b1 : Nat), HeadH H1 cs ⟨[⟨4, 1⟩], 0, 0, [], [⟨1, 4, 0, true⟩, ⟨3, 4, 1, true⟩]⟩ ∧ s = ⟨87, [(1, ptr b1), (2, .bool true)], H1, [.box b1 cs], [], []⟩) ?_ ?_
  · repeat' (first | (refine O_ef rfl (Ef_call (I := []) WideF.wide example_fn trivial rfl ?_); rintro v H2 I2 hle2 ⟨⟨cs2, rfl, hcs2⟩, rfl⟩) | (refine O_freeze (css := [irow 2]) (irow_one [2]) ?_; intro H3 hle3 hr3; refine O_ef rfl (Ef_call (I := []) WideF.wide (dec_ka (hcs2.mono hle3) hr3) ⟨rfl, rfl, trivial⟩ rfl ?_); rintro v H4 I4 hle4 ⟨⟨cs4, rfl, hcs4⟩, rfl⟩; obtain ⟨pa4, pn4, pc4, da4, dn4, dc4, la4, ln4, lc4, rfl, h14, h24, h34⟩ := hcs4.ex) | refine O_nil ?_ | refine A_region ?_ | (show opsA _ _ _ _ _ _ _; first | refine O_ev WideF.wide rfl (Ev_pure rfl) rfl rfl ?_ | (show opsA _ _ _ _ (⟨_, .buildSlice _ _ _, _, _, _, _⟩ :: _) _ _; (refine O_ef rfl (Ef_build11 WideF.wide rfl rfl rfl ?_); intro b)) | (show opsA _ _ _ _ (⟨_, .build _ _, _, _, _, _⟩ :: _) _ _; refine O_ev WideF.wide rfl (Ev_build (vs := [(_, _)]) ⟨rfl, rfl, trivial⟩ rfl) rfl rfl ?_) | (show opsA _ _ _ _ (⟨_, .alloc _, _, _, _, _⟩ :: _) _ _; (refine O_ef rfl (Ef_alloc WideF.wide rfl ?_); intro b)) | (show opsA _ _ _ _ (⟨_, .store _ _ _, _, _, _, _⟩ :: _) _ _; refine O_ef rfl (Ef_storew WideF.wide rfl rfl rfl rfl rfl ?_))))
    exact Shift.to ⟨_, _, _, hcs4, rfl⟩ ⟨rfl, rfl, rfl, ⟨rfl, rfl, trivial⟩, Own.subi [0] (by decide) rfl rfl⟩
  rintro s ⟨H1, cs1, b1, hcs1, rfl⟩
  refine A_seq ?_
  refine A_cutu (fun s => ∃ (H2 : Hp) (cs : List Value) (b3 : Nat), HLe H1 H2 ∧ HeadH H2 cs ⟨[⟨4, 2⟩], 0, 0, [], []⟩ ∧ s = ⟨87, [(1, ptr b1), (2, .bool true), (3, ptr b3), (4, .bool true)], H2, [.box b1 cs1, .box b3 cs], [], []⟩) ?_ ?_
  · repeat' (first | (refine O_ef rfl (Ef_call (I := []) WideF.wide example_fn trivial rfl ?_); rintro v H2 I2 hle2 ⟨⟨cs2, rfl, hcs2⟩, rfl⟩) | (refine O_freeze (css := [irow 3]) (irow_one [3]) ?_; intro H3 hle3 hr3; refine O_freeze (css := [irow 2]) (irow_one [2]) ?_; intro H5 hle5 hr5; refine O_ef rfl (Ef_call (I := []) WideF.wide (dec_kb (hcs2.mono (hle3.trans hle5)) hr5 (hr3.mono hle5)) ⟨rfl, rfl, trivial⟩ rfl ?_); rintro v H4 I4 hle4 ⟨⟨cs4, rfl, hcs4⟩, rfl⟩; obtain ⟨pa4, pn4, pc4, da4, dn4, dc4, la4, ln4, lc4, rfl, h14, h24, h34⟩ := hcs4.ex) | refine O_nil ?_ | refine A_region ?_ | (show opsA _ _ _ _ _ _ _; first | refine O_ev WideF.wide rfl (Ev_pure rfl) rfl rfl ?_ | (show opsA _ _ _ _ (⟨_, .buildSlice _ _ _, _, _, _, _⟩ :: _) _ _; (refine O_ef rfl (Ef_build11 WideF.wide rfl rfl rfl ?_); intro b)) | (show opsA _ _ _ _ (⟨_, .build _ _, _, _, _, _⟩ :: _) _ _; refine O_ev WideF.wide rfl (Ev_build (vs := [(_, _), (_, _)]) ⟨rfl, rfl, rfl, rfl, trivial⟩ rfl) rfl rfl ?_) | (show opsA _ _ _ _ (⟨_, .alloc _, _, _, _, _⟩ :: _) _ _; (refine O_ef rfl (Ef_alloc WideF.wide rfl ?_); intro b)) | (show opsA _ _ _ _ (⟨_, .store _ _ _, _, _, _, _⟩ :: _) _ _; refine O_ef rfl (Ef_storew WideF.wide rfl rfl rfl rfl rfl ?_))))
    exact Shift.to ⟨_, _, _, hle2.trans (hle3.trans (hle5.trans hle4)), hcs4, rfl⟩ ⟨rfl, rfl, rfl, ⟨rfl, rfl, rfl, rfl, trivial⟩, Own.subi [1, 0] (by decide) rfl rfl⟩
  rintro s ⟨H2, cs2, b3, hle2, hcs2, rfl⟩
  refine A_seq ?_
  refine A_cutu (fun s => ∃ (bd b5 : Nat), s = ⟨87, [(1, ptr b1), (2, .bool true), (3, ptr b3), (4, .bool true), (5, ptr b5)], H2, [.row (.slice (some ⟨bd, 0, none⟩) 1 1) 2 (exX.dels.map drow), .box b1 cs1, .box b3 cs2, .box b5 [.slice none 0 0, .int .i64 3, .int .i64 0, .slice (some ⟨bd, 0, none⟩) 1 1, .slice none 0 0]], [], []⟩) ?_ ?_
  · repeat' (first | refine O_nil ?_ | refine A_region ?_ | (show opsA _ _ _ _ _ _ _; first | (show opsA _ _ _ _ (⟨_, .buildSlice _ _ _, _, _, _, _⟩ :: _) _ _; (refine O_ef rfl (Ef_build1a WideF.wide rfl rfl rfl rfl rfl ?_); intro b)) | (show opsA _ _ _ _ (⟨_, .build _ _, _, _, _, _⟩ :: _) _ _; first | refine O_ev WideF.wide rfl (Ev_build (vs := [(_, _)]) ⟨rfl, rfl, trivial⟩ rfl) rfl rfl ?_ | refine O_ev WideF.wide rfl (Ev_build (vs := [(_, _), (_, _)]) ⟨rfl, rfl, rfl, rfl, trivial⟩ rfl) rfl rfl ?_) | (show opsA _ _ _ _ (⟨_, .alloc _, _, _, _, _⟩ :: _) _ _; (refine O_ef rfl (Ef_alloc WideF.wide rfl ?_); intro b)) | (show opsA _ _ _ _ (⟨_, .store _ _ _, _, _, _, _⟩ :: _) _ _; refine O_ef rfl (Ef_storew WideF.wide rfl rfl rfl rfl rfl ?_))))
    exact Shift.to ⟨_, _, rfl⟩ ⟨rfl, rfl, rfl, ⟨rfl, rfl, rfl, rfl, rfl, trivial⟩, Own.subi [1, 2, 3, 0] (by decide) rfl rfl⟩
  rintro s ⟨bd, b5, rfl⟩
  refine A_freeze (drow_one _) ?_
  intro H3 hle3 hrd
  have hx3 : HeadH H3 [.slice none 0 0, .int .i64 3, .int .i64 0, .slice (some ⟨bd, 0, none⟩) 1 1, .slice none 0 0] exX := ⟨⟨_, _, _, _, _, _, _, _, _, rfl, HRow.nil' _ _, hrd, HRow.nil' _ _⟩⟩
  refine A_seq ?_
  refine A_cutu (fun s => ∃ (H4 : Hp), HLe H3 H4 ∧ s = ⟨87, [(1, ptr b1), (2, .bool true), (3, ptr b3), (4, .bool true), (5, ptr b5), (7, .bool false)], H4, [.box b1 cs1, .box b3 cs2, .box b5 [.slice none 0 0, .int .i64 3, .int .i64 0, .slice (some ⟨bd, 0, none⟩) 1 1, .slice none 0 0]], [], []⟩) ?_ ?_
  · repeat' (first | (refine O_freeze (css := [irow 5]) (irow_one [5]) ?_; intro H5 hle5 hr5; refine O_ef rfl (Ef_call (I := []) WideF.wide (dec_kx (hx3.mono hle5) hr5) ⟨rfl, rfl, trivial⟩ rfl ?_); rintro v H4 I4 hle4 ⟨⟨cs4, h4, rfl, hcs4⟩, rfl⟩; obtain ⟨pa4, pn4, pc4, da4, dn4, dc4, la4, ln4, lc4, rfl, h14, h24, h34⟩ := hcs4.ex) | refine O_nil ?_ | refine A_region ?_ | (show opsA _ _ _ _ _ _ _; first | refine O_ev WideF.wide rfl (Ev_pure rfl) rfl rfl ?_ | (show opsA _ _ _ _ (⟨_, .load _ _, _, _, _, _⟩ :: _) _ _; refine O_ev WideF.wide rfl (Ev_loadB (i := 2) rfl rfl rfl) rfl rfl ?_) | (show opsA _ _ _ _ (⟨_, .buildSlice _ _ _, _, _, _, _⟩ :: _) _ _; (refine O_ef rfl (Ef_build11 WideF.wide rfl rfl rfl ?_); intro b)) | (show opsA _ _ _ _ (⟨_, .build _ _, _, _, _, _⟩ :: _) _ _; refine O_ev WideF.wide rfl (Ev_build (vs := [(_, _)]) ⟨rfl, rfl, trivial⟩ rfl) rfl rfl ?_) | (show opsA _ _ _ _ (⟨_, .alloc _, _, _, _, _⟩ :: _) _ _; (refine O_ef rfl (Ef_alloc WideF.wide rfl ?_); intro b)) | (show opsA _ _ _ _ (⟨_, .store _ _ _, _, _, _, _⟩ :: _) _ _; refine O_ef rfl (Ef_storew WideF.wide rfl rfl rfl rfl rfl ?_))))
    exact Shift.to ⟨_, hle5.trans hle4, rfl⟩ ⟨rfl, rfl, rfl, ⟨rfl, rfl, rfl, rfl, rfl, rfl, trivial⟩, Own.subi [1, 2, 3] (by decide) rfl rfl⟩
  rintro s ⟨H4, hle4, rfl⟩
  have hle14 := hle2.trans (hle3.trans hle4)
  obtain ⟨pa1, pn1, pc1, da1, dn1, dc1, la1, ln1, lc1, rfl, h11, h21, h31⟩ := (hcs1.mono hle14).ex
  obtain ⟨pa2, pn2, pc2, da2, dn2, dc2, la2, ln2, lc2, rfl, h12, h22, h32⟩ := (hcs2.mono (hle3.trans hle4)).ex
  have e1 : 2 = ln1 := h31.len
  have e2 : 0 = ln2 := h32.len
  have e3 : 1 = pn2 := h12.len
  subst e1 e2 e3
  obtain ⟨bl, ol, y, rfl, hy, hcl⟩ := h31.atm 1 (by omega)
  cases hy
  obtain ⟨bp, op, z, rfl, hz, hcp⟩ := h12.atm 0 (by omega)
  cases hz
  unfold lrow at hcl
  unfold prow at hcp
  have v1 : FnP Try.prog 23 [.agg zHead.toArray] H4 (.bool true) := Visible_fn (q := Head.none) ⟨⟨_, _, _, _, _, _, _, _, _, rfl, HRow.nil' _ _, HRow.nil' _ _, HRow.nil' _ _⟩⟩
  have v2 : FnP Try.prog 23 [.agg [.slice none 0 0, .int .i64 3, .int .i64 0, .slice (some ⟨bd, 0, none⟩) 1 1, .slice none 0 0].toArray] H4 (.bool false) := Visible_fn (hx3.mono hle4)
  have eqk : ∀ w, (Op.equalIn 10000 75 (.agg [.int .i64 3, .int .i64 4, .int .i64 1, .bool true].toArray) (.agg [.int .i64 3, .int .i64 4, .int .i64 1, .bool true].toArray)).run Try.prog w = .ok (decide True) w := fun w => by
    have h := eq_layer 3 4 1 3 4 1 true true w
    simpa using h
  repeat' (first | (refine O_ev WideF.wide rfl (Ev_loadH rfl hcl rfl) rfl rfl ?_) | (refine O_ev WideF.wide rfl (Ev_loadH1 rfl (hcp 1 _ rfl)) rfl rfl ?_) | (refine O_ev WideF.wide rfl (Ev_eqS rfl rfl Try.eqGuardType75 eqk) rfl rfl ?_) | (refine O_ef rfl (Ef_callp WideF.wide v1 ⟨rfl, trivial⟩ rfl ?_)) | (refine O_ef rfl (Ef_callp WideF.wide v2 ⟨rfl, trivial⟩ rfl ?_)) | refine O_nil ?_ | refine A_seq ?_ | refine A_region ?_ | refine A_skip ?_ | refine A_ret ?_ | (show opsA _ _ _ _ _ _ _; first | (refine O_split rfl rfl (fun h => ?_) (fun h => ?_) <;> try (exfalso; omega)) | refine O_ev WideF.wide rfl (Ev_pure rfl) rfl rfl ?_ | (show opsA _ _ _ _ (⟨_, .load _ _, _, _, _, _⟩ :: _) _ _; first | refine O_ev WideF.wide rfl (Ev_loadB1 (i := 0) rfl rfl rfl) rfl rfl ?_ | refine O_ev WideF.wide rfl (Ev_loadB1 (i := 1) rfl rfl rfl) rfl rfl ?_ | refine O_ev WideF.wide rfl (Ev_loadB (i := 2) rfl rfl rfl) rfl rfl ?_) | (show opsA _ _ _ _ (⟨_, .indexAddr _ _ _, _, _, _, _⟩ :: _) _ _; refine O_ev WideF.wide rfl (Ev_indexAddr rfl rfl (by omega) (by omega)) rfl rfl ?_) | (show opsA _ _ _ _ (⟨_, .fieldAddr _ _ _, _, _, _, _⟩ :: _) _ _; refine O_ev WideF.wide rfl (Ev_fieldAddr rfl rfl rfl) rfl rfl ?_) | (show opsA _ _ _ _ (⟨_, .call _, _, _, _, _⟩ :: _) _ _; refine O_ev WideF.wide rfl (Ev_llen rfl) rfl rfl ?_) | (show opsA _ _ _ _ (⟨_, .unOp _ _ _, _, _, _, _⟩ :: _) _ _; refine O_ev WideF.wide rfl (Ev_notb rfl) rfl rfl ?_) | (show opsA _ _ _ _ (⟨_, .build _ _, _, _, _, _⟩ :: _) _ _; first | refine O_ev WideF.wide rfl (Ev_build (vs := [(_, _), (_, _), (_, _), (_, _)]) ⟨rfl, rfl, rfl, rfl, rfl, rfl, rfl, rfl, trivial⟩ rfl) rfl rfl ?_ | refine O_ev WideF.wide rfl (Ev_build (vs := []) trivial rfl) rfl rfl ?_) | refine O_skip WideF.wide rfl rfl rfl ?_) | (show wpA _ _ _ (.cond _ _ _) _ _ _ _; (refine A_if rfl (fun h => ?_) (fun h => ?_) <;> try (exfalso; omega))))
  all_goals first
    | exact End_e (Ret1 rfl rfl) ⟨rfl, rfl⟩
    | (rename_i hbad; exact absurd trivial hbad)
    | (rename_i hbad; exact absurd rfl hbad)
    | (exfalso; simp_all)
end Go.Proofs.Ythniohgeojenaaa
