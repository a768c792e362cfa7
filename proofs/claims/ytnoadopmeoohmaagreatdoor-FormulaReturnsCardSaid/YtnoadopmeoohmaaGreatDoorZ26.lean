import Derived.Test.YtnoadopmeoohmaaGreatDoorZ25
/-
  write of operators and calls. Printed by genF31.py.
-/
namespace Go.Proofs.YtnoadopmeoohmaaGreatDoor
open Go
set_option linter.unusedVariables false
set_option linter.unusedSimpArgs false
theorem jn_le (A B : List (List UInt8)) : (jn A).length ≤ (jn (A ++ B)).length := by
  cases A with
  | nil => simp [jn]
  | cons x r => simp [jn, List.flatMap_append]
theorem jn_take_le (L : List (List UInt8)) (i : Nat) : (jn (L.take i)).length ≤ (jn L).length := by
  have h := jn_le (L.take i) (L.drop i)
  rwa [List.take_append_drop] at h
attribute [local irreducible] wpA opsA drJ drQ drE Ef Ev Shift Fn
set_option maxRecDepth 100000 in
set_option maxHeartbeats 16000000 in
theorem write_8q {H : Hp} {num lv : Int} {text : List UInt8} {a : Option Addr} {cp pb : Nat} {y0 : Nd} {l : List UInt8} {I : Own} (hs : NodesS H a 1 cp [y0]) (hB0 : BldIs pb l I) (k0 : WrN H y0) (hlv : ¬ (stl 8).2.1 < lv) (hl : l.length + (par false (bod 8 num text ([y0].map wr))).length ≤ 35184372088832) :
    Fn Tryz.prog 47 [.pointer (some ⟨pb, 0, none⟩), .agg [.int .i64 8, .int .i64 num, sv text, .slice a 1 cp].toArray, .int .i64 lv] H I fun _ _ I' => BldIs pb (l ++ par false (bod 8 num text ([y0].map wr))) I' := by
  obtain ⟨b0, o0, a0, n0, c0, rfl, hn0, hc0⟩ := node_at hs 0 (by omega) (y := y0) rfl
  obtain ⟨w, hw⟩ : ∃ w, w = (stl 8).1 := ⟨_, rfl⟩
  obtain ⟨q, hq⟩ : ∃ q, q = (stl 8).2.2.1 := ⟨_, rfl⟩
  have e : bod 8 num text ([y0].map wr) = w ++ wr y0 q := by rw [hw, hq]; rfl
  have e' : par false (bod 8 num text ([y0].map wr)) = w ++ wr y0 q := by rw [e]; rfl
  rw [e'] at hl ⊢
  have kw := fun Hx (hx : HLe H Hx) J (hJ : BldIs pb (l ++ w) J) => k0 Hx _ q pb (l ++ w) J hx (hn0.mono hx) hJ (by simp only [List.length_append, List.length_cons, List.length_nil] at *; omega)
  refine Fn_ofD _ _ Tryz.func47 rfl Tryz.ntmps47 rfl fun c => ?_
  repeat' (first | (refine O_ef rfl (Ef_boxa WideF.wide (cs := [.int .i64 8, .int .i64 num, sv text, .slice _ _ _]) rfl rfl ?_); intro b9; refine O_freezeBox (by intro u hu; simp at hu; rcases hu with rfl | rfl | rfl | rfl <;> rfl) ?_; intro H1 hle1 hc) | (show opsA _ _ _ _ (⟨some 11, .call _, _, _, _, _⟩ :: _) _ _; refine O_ef rfl (Ef_call (I := []) WideF.wide (styles_fn (op := 8) (by omega)) ⟨rfl, trivial⟩ rfl ?_); rintro v2 H2 I2 hle2 ⟨rfl, rfl⟩) | (show wpA _ _ _ (.region 2 _ _) _ _ _ _; refine A_freezeBox (cs := rSt (stl 8)) (by intro u hu; simp at hu; rcases hu with rfl | rfl | rfl | rfl <;> rfl) ?_; intro H3 hle3 hs6; have h13 := hle2.trans hle3; refine A_region ?_) | (refine O_ev WideF.wide rfl (Ev_loadH1 rfl (hs6 1 _ rfl)) rfl rfl ?_) | (refine O_ev WideF.wide rfl (Ev_loadH1 rfl (hs6 0 _ rfl)) rfl rfl ?_; rw [← hw]) | (refine O_ev WideF.wide rfl (Ev_loadH1 rfl (h13 _ _ _ (hc 0 _ rfl))) rfl rfl ?_) | (show opsA _ _ _ _ (⟨some 104, .call _, _, _, _, _⟩ :: _) _ _; refine O_ef rfl (Ef_call0 WideF.wide (WriteString_fn _ pb _ (w) _ hB0 (by simp only [List.length_append, List.length_cons, List.length_nil] at *; omega)) ⟨rfl, rfl, trivial⟩ rfl ?_); rintro v104 G104 J104 gl104 ⟨rfl, hBq⟩) | (show drJ _ _ _ _ _ _ _ (.done _) _; refine D_done ?_; simp only [List.cons_append, List.nil_append, List.append_nil]) | (show wpA _ _ _ (.region 30 _ _) _ _ _ _; (refine A_drawM WideF.wide (.q 0 (.q 1 (.q 2 (.q 3 (.q 4 (.q 5 (.q 6 (.e 7 (.done []))))))))) [] (by decide +kernel) ?_)) | (refine D_ev rfl (Ev_loadH1 rfl (h13 _ _ _ (hc 3 _ rfl))) rfl rfl ?_) | (refine D_ev rfl (Ev_loadH rfl (hc0.mono (hle1.trans h13)) rfl) rfl rfl ?_) | (refine D_ev rfl (Ev_loadH1 rfl (hs6 2 _ rfl)) rfl rfl ?_; rw [← hq]) | (refine E_ef rfl (Ef_call0 WideF.wide (kw _ (hle1.trans h13) _ hBq) ⟨rfl, rfl, rfl, trivial⟩ rfl ?_); rintro v5 H5 I5 hle5 hBr; refine ⟨⟨hle5, rfl⟩, ?_⟩) | refine O_nil ?_ | refine A_seq ?_ | refine A_region ?_ | refine A_skip ?_ | refine A_block ?_ | (show drJ _ _ _ _ _ _ _ (.q _ _) _; refine D_q rfl ?_) | (show drJ _ _ _ _ _ _ _ (.e _ _) _; refine D_e rfl ?_) | (show drQ _ _ _ _ _ _; first | refine D_ev rfl (Ev_pure rfl) rfl rfl ?_ | (show drQ _ _ _ ⟨_, .indexAddr _ _ _, _, _, _, _⟩ _ _; refine D_ev rfl (Ev_indexAddr rfl rfl (by omega) (by omega)) rfl rfl ?_) | (show drQ _ _ _ ⟨_, .fieldAddr _ _ _, _, _, _, _⟩ _ _; refine D_ev rfl (Ev_fieldAddr rfl rfl rfl) rfl rfl ?_)) | (show opsA _ _ _ _ _ _ _; first | refine O_ev WideF.wide rfl (Ev_pure rfl) rfl rfl ?_ | (show opsA _ _ _ _ (⟨_, .load _ _, _, _, _, _⟩ :: _) _ _; refine O_ev WideF.wide rfl (Ev_loadH1 rfl (hc 0 _ rfl)) rfl rfl ?_) | (show opsA _ _ _ _ (⟨_, .fieldAddr _ _ _, _, _, _, _⟩ :: _) _ _; refine O_ev WideF.wide rfl (Ev_fieldAddr rfl rfl rfl) rfl rfl ?_) | (show opsA _ _ _ _ (⟨_, .alloc _, _, _, _, _⟩ :: _) _ _; (refine O_ef rfl (Ef_alloc WideF.wide rfl ?_); intro b)) | (show opsA _ _ _ _ (⟨_, .store _ _ _, _, _, _, _⟩ :: _) _ _; refine O_ef rfl (Ef_storew WideF.wide rfl rfl rfl rfl rfl ?_))) | (show wpA _ _ _ (.cond _ _ _) _ _ _ _; (refine A_if rfl (fun h => ?_) (fun h => ?_) <;> try (exfalso; omega))))
  all_goals first
    | (exfalso; omega)
    | (exfalso; contradiction)
    | (exfalso; exact absurd trivial (by assumption))
    | (exfalso; exact absurd rfl (by assumption))
    | exact EndD_nil rfl (End_m (Ret0 rfl) (by simpa only [List.append_assoc, List.cons_append, List.nil_append] using hBr))
    | trace_state
set_option maxRecDepth 100000 in
set_option maxHeartbeats 16000000 in
theorem write_8p {H : Hp} {num lv : Int} {text : List UInt8} {a : Option Addr} {cp pb : Nat} {y0 : Nd} {l : List UInt8} {I : Own} (hs : NodesS H a 1 cp [y0]) (hB0 : BldIs pb l I) (k0 : WrN H y0) (hlv : (stl 8).2.1 < lv) (hl : l.length + (par true (bod 8 num text ([y0].map wr))).length ≤ 35184372088832) :
    Fn Tryz.prog 47 [.pointer (some ⟨pb, 0, none⟩), .agg [.int .i64 8, .int .i64 num, sv text, .slice a 1 cp].toArray, .int .i64 lv] H I fun _ _ I' => BldIs pb (l ++ par true (bod 8 num text ([y0].map wr))) I' := by
  obtain ⟨b0, o0, a0, n0, c0, rfl, hn0, hc0⟩ := node_at hs 0 (by omega) (y := y0) rfl
  obtain ⟨w, hw⟩ : ∃ w, w = (stl 8).1 := ⟨_, rfl⟩
  obtain ⟨q, hq⟩ : ∃ q, q = (stl 8).2.2.1 := ⟨_, rfl⟩
  have e : bod 8 num text ([y0].map wr) = w ++ wr y0 q := by rw [hw, hq]; rfl
  have e' : par true (bod 8 num text ([y0].map wr)) = 40 :: ((w ++ wr y0 q) ++ [41]) := by rw [e]; rfl
  rw [e'] at hl ⊢
  have kw := fun Hx (hx : HLe H Hx) J (hJ : BldIs pb ((l ++ [40]) ++ w) J) => k0 Hx _ q pb ((l ++ [40]) ++ w) J hx (hn0.mono hx) hJ (by simp only [List.length_append, List.length_cons, List.length_nil] at *; omega)
  refine Fn_ofD _ _ Tryz.func47 rfl Tryz.ntmps47 rfl fun c => ?_
  repeat' (first | (refine O_ef rfl (Ef_boxa WideF.wide (cs := [.int .i64 8, .int .i64 num, sv text, .slice _ _ _]) rfl rfl ?_); intro b9; refine O_freezeBox (by intro u hu; simp at hu; rcases hu with rfl | rfl | rfl | rfl <;> rfl) ?_; intro H1 hle1 hc) | (show opsA _ _ _ _ (⟨some 11, .call _, _, _, _, _⟩ :: _) _ _; refine O_ef rfl (Ef_call (I := []) WideF.wide (styles_fn (op := 8) (by omega)) ⟨rfl, trivial⟩ rfl ?_); rintro v2 H2 I2 hle2 ⟨rfl, rfl⟩) | (show wpA _ _ _ (.region 2 _ _) _ _ _ _; refine A_freezeBox (cs := rSt (stl 8)) (by intro u hu; simp at hu; rcases hu with rfl | rfl | rfl | rfl <;> rfl) ?_; intro H3 hle3 hs6; have h13 := hle2.trans hle3; refine A_region ?_) | (refine O_ev WideF.wide rfl (Ev_loadH1 rfl (hs6 1 _ rfl)) rfl rfl ?_) | (refine O_ev WideF.wide rfl (Ev_loadH1 rfl (hs6 0 _ rfl)) rfl rfl ?_; rw [← hw]) | (refine O_ev WideF.wide rfl (Ev_loadH1 rfl (h13 _ _ _ (hc 0 _ rfl))) rfl rfl ?_) | (show opsA _ _ _ _ (⟨some 17, .call _, _, _, _, _⟩ :: _) _ _; refine O_ef rfl (Ef_call0 WideF.wide (WriteByte_fn (u := 40) hB0 (by simp only [List.length_append, List.length_cons, List.length_nil] at *; omega)) ⟨rfl, rfl, trivial⟩ rfl ?_); rintro v17 G17 J17 gl17 ⟨rfl, hBp⟩) | (refine O_ef rfl (Ef_deferF (args := [.pointer (some ⟨pb, 0, none⟩), .int .u8 (((41 : UInt8).toNat : Nat) : Int)]) WideF.wide rfl ⟨rfl, rfl, trivial⟩ ?_)) | (show opsA _ _ _ _ (⟨some 104, .call _, _, _, _, _⟩ :: _) _ _; refine O_ef rfl (Ef_call0 WideF.wide (WriteString_fn _ pb _ (w) _ hBp (by simp only [List.length_append, List.length_cons, List.length_nil] at *; omega)) ⟨rfl, rfl, trivial⟩ rfl ?_); rintro v104 G104 J104 gl104 ⟨rfl, hBq⟩) | (show drJ _ _ _ _ _ _ _ (.done _) _; refine D_done ?_; simp only [List.cons_append, List.nil_append, List.append_nil]) | (show wpA _ _ _ (.region 30 _ _) _ _ _ _; (refine A_drawM WideF.wide (.q 0 (.q 1 (.q 2 (.q 3 (.q 4 (.q 5 (.q 6 (.e 7 (.done []))))))))) [] (by decide +kernel) ?_)) | (refine D_ev rfl (Ev_loadH1 rfl (h13 _ _ _ (hc 3 _ rfl))) rfl rfl ?_) | (refine D_ev rfl (Ev_loadH rfl (hc0.mono (hle1.trans h13)) rfl) rfl rfl ?_) | (refine D_ev rfl (Ev_loadH1 rfl (hs6 2 _ rfl)) rfl rfl ?_; rw [← hq]) | (refine E_ef rfl (Ef_call0 WideF.wide (kw _ (hle1.trans h13) _ hBq) ⟨rfl, rfl, rfl, trivial⟩ rfl ?_); rintro v5 H5 I5 hle5 hBr; refine ⟨⟨hle5, rfl⟩, ?_⟩) | refine O_nil ?_ | refine A_seq ?_ | refine A_region ?_ | refine A_skip ?_ | refine A_block ?_ | (show drJ _ _ _ _ _ _ _ (.q _ _) _; refine D_q rfl ?_) | (show drJ _ _ _ _ _ _ _ (.e _ _) _; refine D_e rfl ?_) | (show drQ _ _ _ _ _ _; first | refine D_ev rfl (Ev_pure rfl) rfl rfl ?_ | (show drQ _ _ _ ⟨_, .indexAddr _ _ _, _, _, _, _⟩ _ _; refine D_ev rfl (Ev_indexAddr rfl rfl (by omega) (by omega)) rfl rfl ?_) | (show drQ _ _ _ ⟨_, .fieldAddr _ _ _, _, _, _, _⟩ _ _; refine D_ev rfl (Ev_fieldAddr rfl rfl rfl) rfl rfl ?_)) | (show opsA _ _ _ _ _ _ _; first | refine O_ev WideF.wide rfl (Ev_pure rfl) rfl rfl ?_ | (show opsA _ _ _ _ (⟨_, .load _ _, _, _, _, _⟩ :: _) _ _; refine O_ev WideF.wide rfl (Ev_loadH1 rfl (hc 0 _ rfl)) rfl rfl ?_) | (show opsA _ _ _ _ (⟨_, .fieldAddr _ _ _, _, _, _, _⟩ :: _) _ _; refine O_ev WideF.wide rfl (Ev_fieldAddr rfl rfl rfl) rfl rfl ?_) | (show opsA _ _ _ _ (⟨_, .alloc _, _, _, _, _⟩ :: _) _ _; (refine O_ef rfl (Ef_alloc WideF.wide rfl ?_); intro b)) | (show opsA _ _ _ _ (⟨_, .store _ _ _, _, _, _, _⟩ :: _) _ _; refine O_ef rfl (Ef_storew WideF.wide rfl rfl rfl rfl rfl ?_))) | (show wpA _ _ _ (.cond _ _ _) _ _ _ _; (refine A_if rfl (fun h => ?_) (fun h => ?_) <;> try (exfalso; omega))))
  all_goals first
    | (exfalso; omega)
    | (exfalso; contradiction)
    | (exfalso; exact absurd trivial (by assumption))
    | (exfalso; exact absurd rfl (by assumption))
    | (refine EndD_one0 (cap := []) (WriteByte_d (u := 41) hBr (by simp only [List.length_append, List.length_cons, List.length_nil] at *; omega)) ?_; rintro H' I' hl' ⟨rfl, hB'⟩; exact ⟨_, Ret0 rfl, rfl, Shift.pure ⟨rfl, (by simpa only [List.append_assoc, List.cons_append, List.nil_append] using hB')⟩⟩)
    | trace_state
set_option maxRecDepth 100000 in
set_option maxHeartbeats 16000000 in
theorem write_21q {H : Hp} {num lv : Int} {text : List UInt8} {a : Option Addr} {cp pb : Nat} {y0 : Nd} {l : List UInt8} {I : Own} (hs : NodesS H a 1 cp [y0]) (hB0 : BldIs pb l I) (k0 : WrN H y0) (hlv : ¬ (stl 21).2.1 < lv) (hl : l.length + (par false (bod 21 num text ([y0].map wr))).length ≤ 35184372088832) :
    Fn Tryz.prog 47 [.pointer (some ⟨pb, 0, none⟩), .agg [.int .i64 21, .int .i64 num, sv text, .slice a 1 cp].toArray, .int .i64 lv] H I fun _ _ I' => BldIs pb (l ++ par false (bod 21 num text ([y0].map wr))) I' := by
  obtain ⟨b0, o0, a0, n0, c0, rfl, hn0, hc0⟩ := node_at hs 0 (by omega) (y := y0) rfl
  obtain ⟨w, hw⟩ : ∃ w, w = (stl 21).1 := ⟨_, rfl⟩
  obtain ⟨q, hq⟩ : ∃ q, q = (stl 21).2.2.1 := ⟨_, rfl⟩
  have e : bod 21 num text ([y0].map wr) = w ++ wr y0 q := by rw [hw, hq]; rfl
  have e' : par false (bod 21 num text ([y0].map wr)) = w ++ wr y0 q := by rw [e]; rfl
  rw [e'] at hl ⊢
  have kw := fun Hx (hx : HLe H Hx) J (hJ : BldIs pb (l ++ w) J) => k0 Hx _ q pb (l ++ w) J hx (hn0.mono hx) hJ (by simp only [List.length_append, List.length_cons, List.length_nil] at *; omega)
  refine Fn_ofD _ _ Tryz.func47 rfl Tryz.ntmps47 rfl fun c => ?_
  repeat' (first | (refine O_ef rfl (Ef_boxa WideF.wide (cs := [.int .i64 21, .int .i64 num, sv text, .slice _ _ _]) rfl rfl ?_); intro b9; refine O_freezeBox (by intro u hu; simp at hu; rcases hu with rfl | rfl | rfl | rfl <;> rfl) ?_; intro H1 hle1 hc) | (show opsA _ _ _ _ (⟨some 11, .call _, _, _, _, _⟩ :: _) _ _; refine O_ef rfl (Ef_call (I := []) WideF.wide (styles_fn (op := 21) (by omega)) ⟨rfl, trivial⟩ rfl ?_); rintro v2 H2 I2 hle2 ⟨rfl, rfl⟩) | (show wpA _ _ _ (.region 2 _ _) _ _ _ _; refine A_freezeBox (cs := rSt (stl 21)) (by intro u hu; simp at hu; rcases hu with rfl | rfl | rfl | rfl <;> rfl) ?_; intro H3 hle3 hs6; have h13 := hle2.trans hle3; refine A_region ?_) | (refine O_ev WideF.wide rfl (Ev_loadH1 rfl (hs6 1 _ rfl)) rfl rfl ?_) | (refine O_ev WideF.wide rfl (Ev_loadH1 rfl (hs6 0 _ rfl)) rfl rfl ?_; rw [← hw]) | (refine O_ev WideF.wide rfl (Ev_loadH1 rfl (h13 _ _ _ (hc 0 _ rfl))) rfl rfl ?_) | (show opsA _ _ _ _ (⟨some 104, .call _, _, _, _, _⟩ :: _) _ _; refine O_ef rfl (Ef_call0 WideF.wide (WriteString_fn _ pb _ (w) _ hB0 (by simp only [List.length_append, List.length_cons, List.length_nil] at *; omega)) ⟨rfl, rfl, trivial⟩ rfl ?_); rintro v104 G104 J104 gl104 ⟨rfl, hBq⟩) | (show drJ _ _ _ _ _ _ _ (.done _) _; refine D_done ?_; simp only [List.cons_append, List.nil_append, List.append_nil]) | (show wpA _ _ _ (.region 30 _ _) _ _ _ _; (refine A_drawM WideF.wide (.q 0 (.q 1 (.q 2 (.q 3 (.q 4 (.q 5 (.q 6 (.e 7 (.done []))))))))) [] (by decide +kernel) ?_)) | (refine D_ev rfl (Ev_loadH1 rfl (h13 _ _ _ (hc 3 _ rfl))) rfl rfl ?_) | (refine D_ev rfl (Ev_loadH rfl (hc0.mono (hle1.trans h13)) rfl) rfl rfl ?_) | (refine D_ev rfl (Ev_loadH1 rfl (hs6 2 _ rfl)) rfl rfl ?_; rw [← hq]) | (refine E_ef rfl (Ef_call0 WideF.wide (kw _ (hle1.trans h13) _ hBq) ⟨rfl, rfl, rfl, trivial⟩ rfl ?_); rintro v5 H5 I5 hle5 hBr; refine ⟨⟨hle5, rfl⟩, ?_⟩) | refine O_nil ?_ | refine A_seq ?_ | refine A_region ?_ | refine A_skip ?_ | refine A_block ?_ | (show drJ _ _ _ _ _ _ _ (.q _ _) _; refine D_q rfl ?_) | (show drJ _ _ _ _ _ _ _ (.e _ _) _; refine D_e rfl ?_) | (show drQ _ _ _ _ _ _; first | refine D_ev rfl (Ev_pure rfl) rfl rfl ?_ | (show drQ _ _ _ ⟨_, .indexAddr _ _ _, _, _, _, _⟩ _ _; refine D_ev rfl (Ev_indexAddr rfl rfl (by omega) (by omega)) rfl rfl ?_) | (show drQ _ _ _ ⟨_, .fieldAddr _ _ _, _, _, _, _⟩ _ _; refine D_ev rfl (Ev_fieldAddr rfl rfl rfl) rfl rfl ?_)) | (show opsA _ _ _ _ _ _ _; first | refine O_ev WideF.wide rfl (Ev_pure rfl) rfl rfl ?_ | (show opsA _ _ _ _ (⟨_, .load _ _, _, _, _, _⟩ :: _) _ _; refine O_ev WideF.wide rfl (Ev_loadH1 rfl (hc 0 _ rfl)) rfl rfl ?_) | (show opsA _ _ _ _ (⟨_, .fieldAddr _ _ _, _, _, _, _⟩ :: _) _ _; refine O_ev WideF.wide rfl (Ev_fieldAddr rfl rfl rfl) rfl rfl ?_) | (show opsA _ _ _ _ (⟨_, .alloc _, _, _, _, _⟩ :: _) _ _; (refine O_ef rfl (Ef_alloc WideF.wide rfl ?_); intro b)) | (show opsA _ _ _ _ (⟨_, .store _ _ _, _, _, _, _⟩ :: _) _ _; refine O_ef rfl (Ef_storew WideF.wide rfl rfl rfl rfl rfl ?_))) | (show wpA _ _ _ (.cond _ _ _) _ _ _ _; (refine A_if rfl (fun h => ?_) (fun h => ?_) <;> try (exfalso; omega))))
  all_goals first
    | (exfalso; omega)
    | (exfalso; contradiction)
    | (exfalso; exact absurd trivial (by assumption))
    | (exfalso; exact absurd rfl (by assumption))
    | exact EndD_nil rfl (End_m (Ret0 rfl) (by simpa only [List.append_assoc, List.cons_append, List.nil_append] using hBr))
    | trace_state
set_option maxRecDepth 100000 in
set_option maxHeartbeats 16000000 in
theorem write_21p {H : Hp} {num lv : Int} {text : List UInt8} {a : Option Addr} {cp pb : Nat} {y0 : Nd} {l : List UInt8} {I : Own} (hs : NodesS H a 1 cp [y0]) (hB0 : BldIs pb l I) (k0 : WrN H y0) (hlv : (stl 21).2.1 < lv) (hl : l.length + (par true (bod 21 num text ([y0].map wr))).length ≤ 35184372088832) :
    Fn Tryz.prog 47 [.pointer (some ⟨pb, 0, none⟩), .agg [.int .i64 21, .int .i64 num, sv text, .slice a 1 cp].toArray, .int .i64 lv] H I fun _ _ I' => BldIs pb (l ++ par true (bod 21 num text ([y0].map wr))) I' := by
  obtain ⟨b0, o0, a0, n0, c0, rfl, hn0, hc0⟩ := node_at hs 0 (by omega) (y := y0) rfl
  obtain ⟨w, hw⟩ : ∃ w, w = (stl 21).1 := ⟨_, rfl⟩
  obtain ⟨q, hq⟩ : ∃ q, q = (stl 21).2.2.1 := ⟨_, rfl⟩
  have e : bod 21 num text ([y0].map wr) = w ++ wr y0 q := by rw [hw, hq]; rfl
  have e' : par true (bod 21 num text ([y0].map wr)) = 40 :: ((w ++ wr y0 q) ++ [41]) := by rw [e]; rfl
  rw [e'] at hl ⊢
  have kw := fun Hx (hx : HLe H Hx) J (hJ : BldIs pb ((l ++ [40]) ++ w) J) => k0 Hx _ q pb ((l ++ [40]) ++ w) J hx (hn0.mono hx) hJ (by simp only [List.length_append, List.length_cons, List.length_nil] at *; omega)
  refine Fn_ofD _ _ Tryz.func47 rfl Tryz.ntmps47 rfl fun c => ?_
  repeat' (first | (refine O_ef rfl (Ef_boxa WideF.wide (cs := [.int .i64 21, .int .i64 num, sv text, .slice _ _ _]) rfl rfl ?_); intro b9; refine O_freezeBox (by intro u hu; simp at hu; rcases hu with rfl | rfl | rfl | rfl <;> rfl) ?_; intro H1 hle1 hc) | (show opsA _ _ _ _ (⟨some 11, .call _, _, _, _, _⟩ :: _) _ _; refine O_ef rfl (Ef_call (I := []) WideF.wide (styles_fn (op := 21) (by omega)) ⟨rfl, trivial⟩ rfl ?_); rintro v2 H2 I2 hle2 ⟨rfl, rfl⟩) | (show wpA _ _ _ (.region 2 _ _) _ _ _ _; refine A_freezeBox (cs := rSt (stl 21)) (by intro u hu; simp at hu; rcases hu with rfl | rfl | rfl | rfl <;> rfl) ?_; intro H3 hle3 hs6; have h13 := hle2.trans hle3; refine A_region ?_) | (refine O_ev WideF.wide rfl (Ev_loadH1 rfl (hs6 1 _ rfl)) rfl rfl ?_) | (refine O_ev WideF.wide rfl (Ev_loadH1 rfl (hs6 0 _ rfl)) rfl rfl ?_; rw [← hw]) | (refine O_ev WideF.wide rfl (Ev_loadH1 rfl (h13 _ _ _ (hc 0 _ rfl))) rfl rfl ?_) | (show opsA _ _ _ _ (⟨some 17, .call _, _, _, _, _⟩ :: _) _ _; refine O_ef rfl (Ef_call0 WideF.wide (WriteByte_fn (u := 40) hB0 (by simp only [List.length_append, List.length_cons, List.length_nil] at *; omega)) ⟨rfl, rfl, trivial⟩ rfl ?_); rintro v17 G17 J17 gl17 ⟨rfl, hBp⟩) | (refine O_ef rfl (Ef_deferF (args := [.pointer (some ⟨pb, 0, none⟩), .int .u8 (((41 : UInt8).toNat : Nat) : Int)]) WideF.wide rfl ⟨rfl, rfl, trivial⟩ ?_)) | (show opsA _ _ _ _ (⟨some 104, .call _, _, _, _, _⟩ :: _) _ _; refine O_ef rfl (Ef_call0 WideF.wide (WriteString_fn _ pb _ (w) _ hBp (by simp only [List.length_append, List.length_cons, List.length_nil] at *; omega)) ⟨rfl, rfl, trivial⟩ rfl ?_); rintro v104 G104 J104 gl104 ⟨rfl, hBq⟩) | (show drJ _ _ _ _ _ _ _ (.done _) _; refine D_done ?_; simp only [List.cons_append, List.nil_append, List.append_nil]) | (show wpA _ _ _ (.region 30 _ _) _ _ _ _; (refine A_drawM WideF.wide (.q 0 (.q 1 (.q 2 (.q 3 (.q 4 (.q 5 (.q 6 (.e 7 (.done []))))))))) [] (by decide +kernel) ?_)) | (refine D_ev rfl (Ev_loadH1 rfl (h13 _ _ _ (hc 3 _ rfl))) rfl rfl ?_) | (refine D_ev rfl (Ev_loadH rfl (hc0.mono (hle1.trans h13)) rfl) rfl rfl ?_) | (refine D_ev rfl (Ev_loadH1 rfl (hs6 2 _ rfl)) rfl rfl ?_; rw [← hq]) | (refine E_ef rfl (Ef_call0 WideF.wide (kw _ (hle1.trans h13) _ hBq) ⟨rfl, rfl, rfl, trivial⟩ rfl ?_); rintro v5 H5 I5 hle5 hBr; refine ⟨⟨hle5, rfl⟩, ?_⟩) | refine O_nil ?_ | refine A_seq ?_ | refine A_region ?_ | refine A_block ?_ | (show drJ _ _ _ _ _ _ _ (.q _ _) _; refine D_q rfl ?_) | (show drJ _ _ _ _ _ _ _ (.e _ _) _; refine D_e rfl ?_) | (show drQ _ _ _ _ _ _; first | refine D_ev rfl (Ev_pure rfl) rfl rfl ?_ | (show drQ _ _ _ ⟨_, .indexAddr _ _ _, _, _, _, _⟩ _ _; refine D_ev rfl (Ev_indexAddr rfl rfl (by omega) (by omega)) rfl rfl ?_) | (show drQ _ _ _ ⟨_, .fieldAddr _ _ _, _, _, _, _⟩ _ _; refine D_ev rfl (Ev_fieldAddr rfl rfl rfl) rfl rfl ?_)) | (show opsA _ _ _ _ _ _ _; first | refine O_ev WideF.wide rfl (Ev_pure rfl) rfl rfl ?_ | (show opsA _ _ _ _ (⟨_, .load _ _, _, _, _, _⟩ :: _) _ _; refine O_ev WideF.wide rfl (Ev_loadH1 rfl (hc 0 _ rfl)) rfl rfl ?_) | (show opsA _ _ _ _ (⟨_, .fieldAddr _ _ _, _, _, _, _⟩ :: _) _ _; refine O_ev WideF.wide rfl (Ev_fieldAddr rfl rfl rfl) rfl rfl ?_) | (show opsA _ _ _ _ (⟨_, .alloc _, _, _, _, _⟩ :: _) _ _; (refine O_ef rfl (Ef_alloc WideF.wide rfl ?_); intro b)) | (show opsA _ _ _ _ (⟨_, .store _ _ _, _, _, _, _⟩ :: _) _ _; refine O_ef rfl (Ef_storew WideF.wide rfl rfl rfl rfl rfl ?_))) | (show wpA _ _ _ (.cond _ _ _) _ _ _ _; (refine A_if rfl (fun h => ?_) (fun h => ?_) <;> try (exfalso; omega))))
  all_goals first
    | (exfalso; omega)
    | (exfalso; contradiction)
    | (exfalso; exact absurd trivial (by assumption))
    | (exfalso; exact absurd rfl (by assumption))
    | (refine EndD_one0 (cap := []) (WriteByte_d (u := 41) hBr (by simp only [List.length_append, List.length_cons, List.length_nil] at *; omega)) ?_; rintro H' I' hl' ⟨rfl, hB'⟩; exact ⟨_, Ret0 rfl, rfl, Shift.pure ⟨rfl, (by simpa only [List.append_assoc, List.cons_append, List.nil_append] using hB')⟩⟩)
    | trace_state
set_option maxRecDepth 100000 in
set_option maxHeartbeats 16000000 in
theorem write_binq {H : Hp} {op num lv : Int} {text : List UInt8} {a : Option Addr} {cp pb : Nat} {y0 y1 : Nd} {l : List UInt8} {I : Own} (hop : 6 ≤ op ∧ op ≤ 20 ∧ op ≠ 8) (hs : NodesS H a 2 cp [y0, y1]) (hB0 : BldIs pb l I) (k0 : WrN H y0) (k1 : WrN H y1) (hlv : ¬ (stl op).2.1 < lv) (hl : l.length + (par false (bod op num text ([y0, y1].map wr))).length ≤ 35184372088832) :
    Fn Tryz.prog 47 [.pointer (some ⟨pb, 0, none⟩), .agg [.int .i64 op, .int .i64 num, sv text, .slice a 2 cp].toArray, .int .i64 lv] H I fun _ _ I' => BldIs pb (l ++ par false (bod op num text ([y0, y1].map wr))) I' := by
  obtain ⟨b0, o0, a0, n0, c0, rfl, hn0, hc0⟩ := node_at hs 0 (by omega) (y := y0) rfl
  obtain ⟨b1, o1, a1, n1, c1, heq, hn1, hc1⟩ := node_at hs 1 (by omega) (y := y1) rfl
  cases heq
  obtain ⟨w, hw⟩ : ∃ w, w = (stl op).1 := ⟨_, rfl⟩
  obtain ⟨q, hq⟩ : ∃ q, q = (stl op).2.2.1 := ⟨_, rfl⟩
  obtain ⟨r, hr⟩ : ∃ r, r = (stl op).2.2.2 := ⟨_, rfl⟩
  have e : bod op num text ([y0, y1].map wr) = wr y0 q ++ (32 :: (w ++ (32 :: wr y1 r))) := by
    unfold bod
    rw [if_neg (by omega), if_neg (by omega), if_neg (by omega), if_neg (by omega), if_neg (by omega), if_neg (by omega), hw, hq, hr]
    rfl
  have e' : par false (bod op num text ([y0, y1].map wr)) = wr y0 q ++ (32 :: (w ++ (32 :: wr y1 r))) := by rw [e]; rfl
  rw [e'] at hl ⊢
  have kw := fun Hx (hx : HLe H Hx) J (hJ : BldIs pb l J) => k0 Hx _ q pb l J hx (hn0.mono hx) hJ (by simp only [List.length_append, List.length_cons, List.length_nil] at *; omega)
  have kv := fun Hx (hx : HLe H Hx) J (hJ : BldIs pb (l ++ wr y0 q ++ ([32] ++ w ++ [32])) J) => k1 Hx _ r pb (l ++ wr y0 q ++ ([32] ++ w ++ [32])) J hx (hn1.mono hx) hJ (by simp only [List.length_append, List.length_cons, List.length_nil] at *; omega)
  refine Fn_ofD _ _ Tryz.func47 rfl Tryz.ntmps47 rfl fun c => ?_
  repeat' (first | (refine O_ef rfl (Ef_boxa WideF.wide (cs := [.int .i64 op, .int .i64 num, sv text, .slice _ _ _]) rfl rfl ?_); intro b9; refine O_freezeBox (by intro u hu; simp at hu; rcases hu with rfl | rfl | rfl | rfl <;> rfl) ?_; intro H1 hle1 hc) | (show opsA _ _ _ _ (⟨some 11, .call _, _, _, _, _⟩ :: _) _ _; refine O_ef rfl (Ef_call (I := []) WideF.wide (styles_fn (op := op) (by omega)) ⟨rfl, trivial⟩ rfl ?_); rintro v2 H2 I2 hle2 ⟨rfl, rfl⟩) | (show wpA _ _ _ (.region 2 _ _) _ _ _ _; refine A_freezeBox (cs := rSt (stl op)) (by intro u hu; simp at hu; rcases hu with rfl | rfl | rfl | rfl <;> rfl) ?_; intro H3 hle3 hs6; have h13 := hle2.trans hle3; refine A_region ?_) | (refine O_ev WideF.wide rfl (Ev_loadH1 rfl (hs6 1 _ rfl)) rfl rfl ?_) | (refine O_ev WideF.wide rfl (Ev_loadH1 rfl (h13 _ _ _ (hc 0 _ rfl))) rfl rfl ?_) | (refine O_ev WideF.wide rfl (Ev_loadH1 rfl (hle5 _ _ _ (hs6 0 _ rfl))) rfl rfl ?_; rw [← hw]) | (show drJ _ _ _ _ _ _ _ (.done _) _; refine D_done ?_; simp only [List.cons_append, List.nil_append, List.append_nil]) | (show wpA _ _ _ (.region 6 _ _) _ _ _ _; (refine A_drawM WideF.wide (.q 0 (.q 1 (.q 2 (.q 3 (.q 4 (.q 5 (.q 6 (.e 7 (.done []))))))))) [] (by decide +kernel) ?_)) | (refine D_ev rfl (Ev_loadH1 rfl (h13 _ _ _ (hc 3 _ rfl))) rfl rfl ?_) | (refine D_ev rfl (Ev_loadH rfl (hc0.mono (hle1.trans h13)) rfl) rfl rfl ?_) | (refine D_ev rfl (Ev_loadH1 rfl (hs6 2 _ rfl)) rfl rfl ?_; rw [← hq]) | (show drE _ _ _ _ ⟨some 28, _, _, _, _, _⟩ _ _; refine E_ef rfl (Ef_call0 WideF.wide (kw _ (hle1.trans h13) _ hB0) ⟨rfl, rfl, rfl, trivial⟩ rfl ?_); rintro v5 H5 I5 hle5 hBr; refine ⟨⟨hle5, rfl⟩, ?_⟩) | (refine O_ev WideF.wide rfl (Ev_scat (s := [32]) (s2 := w) rfl rfl (by simp only [List.length_append, List.length_cons, List.length_nil] at *; omega)) rfl rfl ?_) | (refine O_ev WideF.wide rfl (Ev_scat (s := [32] ++ w) (s2 := [32]) rfl rfl (by simp only [List.length_append, List.length_cons, List.length_nil] at *; omega)) rfl rfl ?_) | (show opsA _ _ _ _ (⟨some 34, .call _, _, _, _, _⟩ :: _) _ _; refine O_ef rfl (Ef_call0 WideF.wide (WriteString_fn _ pb _ ([32] ++ w ++ [32]) _ hBr (by simp only [List.length_append, List.length_cons, List.length_nil] at *; omega)) ⟨rfl, rfl, trivial⟩ rfl ?_); rintro v34 G34 J34 gl34 ⟨rfl, hBs⟩) | (show drJ _ _ _ _ _ _ _ (.done _) _; refine D_done ?_; simp only [List.cons_append, List.nil_append, List.append_nil]) | (show wpA _ _ _ (.region 8 _ _) _ _ _ _; (refine A_drawM WideF.wide (.q 0 (.q 1 (.q 2 (.q 3 (.q 4 (.q 5 (.q 6 (.e 7 (.done []))))))))) [] (by decide +kernel) ?_)) | (refine D_ev rfl (Ev_loadH1 rfl (hle5 _ _ _ (h13 _ _ _ (hc 3 _ rfl)))) rfl rfl ?_) | (refine D_ev rfl (Ev_loadH rfl (hc1.mono ((hle1.trans h13).trans hle5)) rfl) rfl rfl ?_) | (refine D_ev rfl (Ev_loadH1 rfl (hle5 _ _ _ (hs6 3 _ rfl))) rfl rfl ?_; rw [← hr]) | (show drE _ _ _ _ ⟨some 42, _, _, _, _, _⟩ _ _; refine E_ef rfl (Ef_call0 WideF.wide (kv _ ((hle1.trans h13).trans hle5) _ hBs) ⟨rfl, rfl, rfl, trivial⟩ rfl ?_); rintro v6 H6 I6 hle6 hBt; refine ⟨⟨hle6, rfl⟩, ?_⟩) | refine O_nil ?_ | refine A_seq ?_ | refine A_region ?_ | refine A_skip ?_ | refine A_block ?_ | (show drJ _ _ _ _ _ _ _ (.q _ _) _; refine D_q rfl ?_) | (show drJ _ _ _ _ _ _ _ (.e _ _) _; refine D_e rfl ?_) | (show drQ _ _ _ _ _ _; first | refine D_ev rfl (Ev_pure rfl) rfl rfl ?_ | (show drQ _ _ _ ⟨_, .indexAddr _ _ _, _, _, _, _⟩ _ _; refine D_ev rfl (Ev_indexAddr rfl rfl (by omega) (by omega)) rfl rfl ?_) | (show drQ _ _ _ ⟨_, .fieldAddr _ _ _, _, _, _, _⟩ _ _; refine D_ev rfl (Ev_fieldAddr rfl rfl rfl) rfl rfl ?_)) | (show opsA _ _ _ _ _ _ _; first | refine O_ev WideF.wide rfl (Ev_pure rfl) rfl rfl ?_ | (show opsA _ _ _ _ (⟨_, .load _ _, _, _, _, _⟩ :: _) _ _; refine O_ev WideF.wide rfl (Ev_loadH1 rfl (hc 0 _ rfl)) rfl rfl ?_) | (show opsA _ _ _ _ (⟨_, .fieldAddr _ _ _, _, _, _, _⟩ :: _) _ _; refine O_ev WideF.wide rfl (Ev_fieldAddr rfl rfl rfl) rfl rfl ?_) | (show opsA _ _ _ _ (⟨_, .alloc _, _, _, _, _⟩ :: _) _ _; (refine O_ef rfl (Ef_alloc WideF.wide rfl ?_); intro b)) | (show opsA _ _ _ _ (⟨_, .store _ _ _, _, _, _, _⟩ :: _) _ _; refine O_ef rfl (Ef_storew WideF.wide rfl rfl rfl rfl rfl ?_))) | (show wpA _ _ _ (.cond _ _ _) _ _ _ _; (refine A_if rfl (fun h => ?_) (fun h => ?_) <;> try (exfalso; omega))))
  all_goals first
    | (exfalso; omega)
    | (exfalso; contradiction)
    | (exfalso; exact absurd trivial (by assumption))
    | (exfalso; exact absurd rfl (by assumption))
    | exact EndD_nil rfl (End_m (Ret0 rfl) (by simpa only [List.append_assoc, List.cons_append, List.nil_append] using hBt))
    | trace_state
set_option maxRecDepth 100000 in
set_option maxHeartbeats 16000000 in
theorem write_binp {H : Hp} {op num lv : Int} {text : List UInt8} {a : Option Addr} {cp pb : Nat} {y0 y1 : Nd} {l : List UInt8} {I : Own} (hop : 6 ≤ op ∧ op ≤ 20 ∧ op ≠ 8) (hs : NodesS H a 2 cp [y0, y1]) (hB0 : BldIs pb l I) (k0 : WrN H y0) (k1 : WrN H y1) (hlv : (stl op).2.1 < lv) (hl : l.length + (par true (bod op num text ([y0, y1].map wr))).length ≤ 35184372088832) :
    Fn Tryz.prog 47 [.pointer (some ⟨pb, 0, none⟩), .agg [.int .i64 op, .int .i64 num, sv text, .slice a 2 cp].toArray, .int .i64 lv] H I fun _ _ I' => BldIs pb (l ++ par true (bod op num text ([y0, y1].map wr))) I' := by
  obtain ⟨b0, o0, a0, n0, c0, rfl, hn0, hc0⟩ := node_at hs 0 (by omega) (y := y0) rfl
  obtain ⟨b1, o1, a1, n1, c1, heq, hn1, hc1⟩ := node_at hs 1 (by omega) (y := y1) rfl
  cases heq
  obtain ⟨w, hw⟩ : ∃ w, w = (stl op).1 := ⟨_, rfl⟩
  obtain ⟨q, hq⟩ : ∃ q, q = (stl op).2.2.1 := ⟨_, rfl⟩
  obtain ⟨r, hr⟩ : ∃ r, r = (stl op).2.2.2 := ⟨_, rfl⟩
  have e : bod op num text ([y0, y1].map wr) = wr y0 q ++ (32 :: (w ++ (32 :: wr y1 r))) := by
    unfold bod
    rw [if_neg (by omega), if_neg (by omega), if_neg (by omega), if_neg (by omega), if_neg (by omega), if_neg (by omega), hw, hq, hr]
    rfl
  have e' : par true (bod op num text ([y0, y1].map wr)) = 40 :: ((wr y0 q ++ (32 :: (w ++ (32 :: wr y1 r)))) ++ [41]) := by rw [e]; rfl
  rw [e'] at hl ⊢
  have kw := fun Hx (hx : HLe H Hx) J (hJ : BldIs pb (l ++ [40]) J) => k0 Hx _ q pb (l ++ [40]) J hx (hn0.mono hx) hJ (by simp only [List.length_append, List.length_cons, List.length_nil] at *; omega)
  have kv := fun Hx (hx : HLe H Hx) J (hJ : BldIs pb ((l ++ [40]) ++ wr y0 q ++ ([32] ++ w ++ [32])) J) => k1 Hx _ r pb ((l ++ [40]) ++ wr y0 q ++ ([32] ++ w ++ [32])) J hx (hn1.mono hx) hJ (by simp only [List.length_append, List.length_cons, List.length_nil] at *; omega)
  refine Fn_ofD _ _ Tryz.func47 rfl Tryz.ntmps47 rfl fun c => ?_
  repeat' (first | (refine O_ef rfl (Ef_boxa WideF.wide (cs := [.int .i64 op, .int .i64 num, sv text, .slice _ _ _]) rfl rfl ?_); intro b9; refine O_freezeBox (by intro u hu; simp at hu; rcases hu with rfl | rfl | rfl | rfl <;> rfl) ?_; intro H1 hle1 hc) | (show opsA _ _ _ _ (⟨some 11, .call _, _, _, _, _⟩ :: _) _ _; refine O_ef rfl (Ef_call (I := []) WideF.wide (styles_fn (op := op) (by omega)) ⟨rfl, trivial⟩ rfl ?_); rintro v2 H2 I2 hle2 ⟨rfl, rfl⟩) | (show wpA _ _ _ (.region 2 _ _) _ _ _ _; refine A_freezeBox (cs := rSt (stl op)) (by intro u hu; simp at hu; rcases hu with rfl | rfl | rfl | rfl <;> rfl) ?_; intro H3 hle3 hs6; have h13 := hle2.trans hle3; refine A_region ?_) | (refine O_ev WideF.wide rfl (Ev_loadH1 rfl (hs6 1 _ rfl)) rfl rfl ?_) | (refine O_ev WideF.wide rfl (Ev_loadH1 rfl (h13 _ _ _ (hc 0 _ rfl))) rfl rfl ?_) | (refine O_ev WideF.wide rfl (Ev_loadH1 rfl (hle5 _ _ _ (hs6 0 _ rfl))) rfl rfl ?_; rw [← hw]) | (show opsA _ _ _ _ (⟨some 17, .call _, _, _, _, _⟩ :: _) _ _; refine O_ef rfl (Ef_call0 WideF.wide (WriteByte_fn (u := 40) hB0 (by simp only [List.length_append, List.length_cons, List.length_nil] at *; omega)) ⟨rfl, rfl, trivial⟩ rfl ?_); rintro v17 G17 J17 gl17 ⟨rfl, hBp⟩) | (refine O_ef rfl (Ef_deferF (args := [.pointer (some ⟨pb, 0, none⟩), .int .u8 (((41 : UInt8).toNat : Nat) : Int)]) WideF.wide rfl ⟨rfl, rfl, trivial⟩ ?_)) | (show drJ _ _ _ _ _ _ _ (.done _) _; refine D_done ?_; simp only [List.cons_append, List.nil_append, List.append_nil]) | (show wpA _ _ _ (.region 6 _ _) _ _ _ _; (refine A_drawM WideF.wide (.q 0 (.q 1 (.q 2 (.q 3 (.q 4 (.q 5 (.q 6 (.e 7 (.done []))))))))) [] (by decide +kernel) ?_)) | (refine D_ev rfl (Ev_loadH1 rfl (h13 _ _ _ (hc 3 _ rfl))) rfl rfl ?_) | (refine D_ev rfl (Ev_loadH rfl (hc0.mono (hle1.trans h13)) rfl) rfl rfl ?_) | (refine D_ev rfl (Ev_loadH1 rfl (hs6 2 _ rfl)) rfl rfl ?_; rw [← hq]) | (show drE _ _ _ _ ⟨some 28, _, _, _, _, _⟩ _ _; refine E_ef rfl (Ef_call0 WideF.wide (kw _ (hle1.trans h13) _ hBp) ⟨rfl, rfl, rfl, trivial⟩ rfl ?_); rintro v5 H5 I5 hle5 hBr; refine ⟨⟨hle5, rfl⟩, ?_⟩) | (refine O_ev WideF.wide rfl (Ev_scat (s := [32]) (s2 := w) rfl rfl (by simp only [List.length_append, List.length_cons, List.length_nil] at *; omega)) rfl rfl ?_) | (refine O_ev WideF.wide rfl (Ev_scat (s := [32] ++ w) (s2 := [32]) rfl rfl (by simp only [List.length_append, List.length_cons, List.length_nil] at *; omega)) rfl rfl ?_) | (show opsA _ _ _ _ (⟨some 34, .call _, _, _, _, _⟩ :: _) _ _; refine O_ef rfl (Ef_call0 WideF.wide (WriteString_fn _ pb _ ([32] ++ w ++ [32]) _ hBr (by simp only [List.length_append, List.length_cons, List.length_nil] at *; omega)) ⟨rfl, rfl, trivial⟩ rfl ?_); rintro v34 G34 J34 gl34 ⟨rfl, hBs⟩) | (show drJ _ _ _ _ _ _ _ (.done _) _; refine D_done ?_; simp only [List.cons_append, List.nil_append, List.append_nil]) | (show wpA _ _ _ (.region 8 _ _) _ _ _ _; (refine A_drawM WideF.wide (.q 0 (.q 1 (.q 2 (.q 3 (.q 4 (.q 5 (.q 6 (.e 7 (.done []))))))))) [] (by decide +kernel) ?_)) | (refine D_ev rfl (Ev_loadH1 rfl (hle5 _ _ _ (h13 _ _ _ (hc 3 _ rfl)))) rfl rfl ?_) | (refine D_ev rfl (Ev_loadH rfl (hc1.mono ((hle1.trans h13).trans hle5)) rfl) rfl rfl ?_) | (refine D_ev rfl (Ev_loadH1 rfl (hle5 _ _ _ (hs6 3 _ rfl))) rfl rfl ?_; rw [← hr]) | (show drE _ _ _ _ ⟨some 42, _, _, _, _, _⟩ _ _; refine E_ef rfl (Ef_call0 WideF.wide (kv _ ((hle1.trans h13).trans hle5) _ hBs) ⟨rfl, rfl, rfl, trivial⟩ rfl ?_); rintro v6 H6 I6 hle6 hBt; refine ⟨⟨hle6, rfl⟩, ?_⟩) | refine O_nil ?_ | refine A_seq ?_ | refine A_region ?_ | refine A_block ?_ | (show drJ _ _ _ _ _ _ _ (.q _ _) _; refine D_q rfl ?_) | (show drJ _ _ _ _ _ _ _ (.e _ _) _; refine D_e rfl ?_) | (show drQ _ _ _ _ _ _; first | refine D_ev rfl (Ev_pure rfl) rfl rfl ?_ | (show drQ _ _ _ ⟨_, .indexAddr _ _ _, _, _, _, _⟩ _ _; refine D_ev rfl (Ev_indexAddr rfl rfl (by omega) (by omega)) rfl rfl ?_) | (show drQ _ _ _ ⟨_, .fieldAddr _ _ _, _, _, _, _⟩ _ _; refine D_ev rfl (Ev_fieldAddr rfl rfl rfl) rfl rfl ?_)) | (show opsA _ _ _ _ _ _ _; first | refine O_ev WideF.wide rfl (Ev_pure rfl) rfl rfl ?_ | (show opsA _ _ _ _ (⟨_, .load _ _, _, _, _, _⟩ :: _) _ _; refine O_ev WideF.wide rfl (Ev_loadH1 rfl (hc 0 _ rfl)) rfl rfl ?_) | (show opsA _ _ _ _ (⟨_, .fieldAddr _ _ _, _, _, _, _⟩ :: _) _ _; refine O_ev WideF.wide rfl (Ev_fieldAddr rfl rfl rfl) rfl rfl ?_) | (show opsA _ _ _ _ (⟨_, .alloc _, _, _, _, _⟩ :: _) _ _; (refine O_ef rfl (Ef_alloc WideF.wide rfl ?_); intro b)) | (show opsA _ _ _ _ (⟨_, .store _ _ _, _, _, _, _⟩ :: _) _ _; refine O_ef rfl (Ef_storew WideF.wide rfl rfl rfl rfl rfl ?_))) | (show wpA _ _ _ (.cond _ _ _) _ _ _ _; (refine A_if rfl (fun h => ?_) (fun h => ?_) <;> try (exfalso; omega))))
  all_goals first
    | (exfalso; omega)
    | (exfalso; contradiction)
    | (exfalso; exact absurd trivial (by assumption))
    | (exfalso; exact absurd rfl (by assumption))
    | (refine EndD_one0 (cap := []) (WriteByte_d (u := 41) hBt (by simp only [List.length_append, List.length_cons, List.length_nil] at *; omega)) ?_; rintro H' I' hl' ⟨rfl, hB'⟩; exact ⟨_, Ret0 rfl, rfl, Shift.pure ⟨rfl, (by simpa only [List.append_assoc, List.cons_append, List.nil_append] using hB')⟩⟩)
    | trace_state
set_option maxRecDepth 100000 in
set_option maxHeartbeats 16000000 in
theorem write_5q {H : Hp} {num lv : Int} {text : List UInt8} {a : Option Addr} {n cp pb : Nat} {args : List Nd} {l : List UInt8} {I : Own} (hn : n ≤ 1000000) (hs : NodesS H a n cp args) (hB0 : BldIs pb l I) (ka : ∀ y ∈ args, WrN H y) (hlv : ¬ (stl 5).2.1 < lv) (hl : l.length + (par false (bod 5 num text (args.map wr))).length ≤ 35184372088832) :
    Fn Tryz.prog 47 [.pointer (some ⟨pb, 0, none⟩), .agg [.int .i64 5, .int .i64 num, sv text, .slice a n cp].toArray, .int .i64 lv] H I fun _ _ I' => BldIs pb (l ++ par false (bod 5 num text (args.map wr))) I' := by
  have hln := hs.len
  obtain ⟨L, hL⟩ : ∃ L, L = args.map fun y => wr y 0 := ⟨_, rfl⟩
  have e : bod 5 num text (args.map wr) = text ++ (40 :: (jn L ++ [41])) := by
    unfold bod
    rw [if_neg (by decide), if_neg (by decide), if_neg (by decide), if_neg (by decide), if_pos rfl, List.map_map, hL]
    rfl
  have e' : par false (bod 5 num text (args.map wr)) = text ++ (40 :: (jn L ++ [41])) := by rw [e]; rfl
  rw [e'] at hl ⊢
  have hLl : L.length = n := by rw [hL, List.length_map]; exact hln
  refine Fn_ofD _ _ Tryz.func47 rfl Tryz.ntmps47 rfl fun c => ?_
  repeat' (first | (refine O_ef rfl (Ef_boxa WideF.wide (cs := [.int .i64 5, .int .i64 num, sv text, .slice _ _ _]) rfl rfl ?_); intro b9; refine O_freezeBox (by intro u hu; simp at hu; rcases hu with rfl | rfl | rfl | rfl <;> rfl) ?_; intro H1 hle1 hc) | (show opsA _ _ _ _ (⟨some 11, .call _, _, _, _, _⟩ :: _) _ _; refine O_ef rfl (Ef_call (I := []) WideF.wide (styles_fn (op := 5) (by omega)) ⟨rfl, trivial⟩ rfl ?_); rintro v2 H2 I2 hle2 ⟨rfl, rfl⟩) | (show wpA _ _ _ (.region 2 _ _) _ _ _ _; refine A_freezeBox (cs := rSt (stl 5)) (by intro u hu; simp at hu; rcases hu with rfl | rfl | rfl | rfl <;> rfl) ?_; intro H3 hle3 hs6; have h13 := hle2.trans hle3; refine A_region ?_) | (refine O_ev WideF.wide rfl (Ev_loadH1 rfl (hs6 1 _ rfl)) rfl rfl ?_) | (refine O_ev WideF.wide rfl (Ev_loadH1 rfl (h13 _ _ _ (hc 0 _ rfl))) rfl rfl ?_) | (refine O_ev WideF.wide rfl (Ev_loadH1 rfl (h13 _ _ _ (hc 2 _ rfl))) rfl rfl ?_) | (refine O_ev WideF.wide rfl (Ev_loadH1 rfl (h13 _ _ _ (hc 3 _ rfl))) rfl rfl ?_) | (refine O_ev WideF.wide rfl (Ev_scat (s := text) (s2 := [40]) rfl rfl (by simp only [List.length_append, List.length_cons, List.length_nil] at *; omega)) rfl rfl ?_) | (show opsA _ _ _ _ (⟨some 79, .call _, _, _, _, _⟩ :: _) _ _; refine O_ef rfl (Ef_call0 WideF.wide (WriteString_fn _ pb _ (text ++ [40]) _ hB0 (by simp only [List.length_append, List.length_cons, List.length_nil] at *; omega)) ⟨rfl, rfl, trivial⟩ rfl ?_); rintro v79 G79 J79 gl79 ⟨rfl, hBq⟩) | refine O_nil ?_ | refine A_seq ?_ | refine A_region ?_ | refine A_skip ?_ | refine A_block ?_ | (show opsA _ _ _ _ _ _ _; first | refine O_ev WideF.wide rfl (Ev_pure rfl) rfl rfl ?_ | (show opsA _ _ _ _ (⟨_, .load _ _, _, _, _, _⟩ :: _) _ _; refine O_ev WideF.wide rfl (Ev_loadH1 rfl (hc 0 _ rfl)) rfl rfl ?_) | (show opsA _ _ _ _ (⟨_, .fieldAddr _ _ _, _, _, _, _⟩ :: _) _ _; refine O_ev WideF.wide rfl (Ev_fieldAddr rfl rfl rfl) rfl rfl ?_) | (show opsA _ _ _ _ (⟨_, .call _, _, _, _, _⟩ :: _) _ _; refine O_ev WideF.wide rfl (Ev_llen rfl) rfl rfl ?_) | (show opsA _ _ _ _ (⟨_, .alloc _, _, _, _, _⟩ :: _) _ _; (refine O_ef rfl (Ef_alloc WideF.wide rfl ?_); intro b)) | (show opsA _ _ _ _ (⟨_, .store _ _ _, _, _, _, _⟩ :: _) _ _; refine O_ef rfl (Ef_storew WideF.wide rfl rfl rfl rfl rfl ?_))) | (show wpA _ _ _ (.cond _ _ _) _ _ _ _; (refine A_if rfl (fun h => ?_) (fun h => ?_) <;> try (exfalso; omega))))
  all_goals try (exfalso; first | omega | contradiction | exact absurd trivial (by assumption))
  have h03 := hle1.trans h13
  refine A_loopu (fun m st => ∃ (i : Nat) (Hq : Hp) (Iq : Own), m = n - i ∧ i ≤ n ∧ HLe H Hq ∧ BldIs pb (l ++ (text ++ [40]) ++ jn (L.take i)) Iq ∧ st = ⟨113, [(0, .pointer (some ⟨pb, 0, none⟩)), (81, .slice a n cp), (82, .int .i64 n), (83, .int .i64 i)], Hq, Iq, [], []⟩) ?_ ?_
  · exact Shift.to ⟨_, 0, _, _, rfl, by omega, h03, (by simpa [jn] using hBq), rfl⟩ ⟨rfl, rfl, rfl, ⟨rfl, rfl, rfl, rfl, trivial⟩, Own.sub_refl _⟩
  rintro m st ⟨i, Hq, Iq, rfl, hi, hleq, hBi, rfl⟩
  by_cases hlt : i < n
  · obtain ⟨y, hy⟩ : ∃ y, args[i]? = some y := ⟨args[i]'(by omega), by simp [show i < args.length by omega]⟩
    obtain ⟨by0, oy, ya, yn, yc, rfl, hny, hcy⟩ := node_at (hs.mono hleq) i hlt hy
    have hLi : L[i]? = some (wr y 0) := by rw [hL, List.getElem?_map, hy]; rfl
    have htk : L.take (i + 1) = L.take i ++ [wr y 0] := take_getN hLi
    have hjs := jn_snoc (L.take i) (wr y 0)
    rw [← htk] at hjs
    have hjl := jn_take_le L (i + 1)
    have ky := ka y (List.mem_of_getElem? hy)
    by_cases hi0 : i = 0
    · rw [if_pos (by rw [hi0]; rfl)] at hjs
      have hBi' : BldIs pb (l ++ (text ++ [40])) Iq := by rw [hi0] at hBi; simpa [jn] using hBi
      rw [hjs] at hjl
      have kw := fun Hx (hx : HLe Hq Hx) => ky Hx _ 0 pb (l ++ (text ++ [40])) Iq (hleq.trans hx) (hny.mono hx) hBi' (by simp only [List.length_append, List.length_cons, List.length_nil] at *; omega)
      repeat' (first | (refine O_ev WideF.wide rfl (Ev_loadH rfl hcy rfl) rfl rfl ?_) | (show wpA _ _ _ (.region 22 _ _) _ _ _ _; refine A_freezeBox (cs := ncs y ya yn yc) (ncs_one _ _ _ _) ?_; intro H5 hle5 hc8; refine A_region ?_) | (refine O_ev WideF.wide rfl (Ev_loadH rfl hc8 rfl) rfl rfl ?_) | (refine O_ef rfl (Ef_call0 WideF.wide (kw _ hle5) ⟨rfl, rfl, rfl, trivial⟩ rfl ?_); rintro v6 H6 I6 hle6 hBr) | refine O_nil ?_ | refine A_seq ?_ | refine A_region ?_ | refine A_skip ?_ | refine A_block ?_ | (show opsA _ _ _ _ _ _ _; first | refine O_ev WideF.wide rfl (Ev_pure rfl) rfl rfl ?_ | (show opsA _ _ _ _ (⟨_, .indexAddr _ _ _, _, _, _, _⟩ :: _) _ _; refine O_ev WideF.wide rfl (Ev_indexAddr rfl rfl (by omega) (by omega)) rfl rfl ?_) | (show opsA _ _ _ _ (⟨_, .binOp _ _ _ _ _, _, _, _, _⟩ :: _) _ _; refine O_ev WideF.wide rfl (Ev_add rfl rfl (wi64 (by omega))) rfl rfl ?_) | (show opsA _ _ _ _ (⟨_, .alloc _, _, _, _, _⟩ :: _) _ _; (refine O_ef rfl (Ef_alloc WideF.wide rfl ?_); intro b)) | (show opsA _ _ _ _ (⟨_, .store _ _ _, _, _, _, _⟩ :: _) _ _; refine O_ef rfl (Ef_storew WideF.wide rfl rfl rfl rfl rfl ?_))) | (show wpA _ _ _ (.cond _ _ _) _ _ _ _; (refine A_if rfl (fun h => ?_) (fun h => ?_) <;> try (exfalso; omega))))
      all_goals first
        | (exfalso; omega)
        | (exfalso; contradiction)
        | (exfalso; exact absurd trivial (by assumption))
        | (exfalso; exact absurd rfl (by assumption))
        | exact Shift.to ⟨_, by omega, i + 1, H6, I6, rfl, by omega, (hleq.trans hle5).trans hle6, (by rw [hjs]; exact hBr), rfl⟩ ⟨rfl, rfl, rfl, ⟨rfl, rfl, rfl, rfl, trivial⟩, Own.sub_refl _⟩
        | trace_state
    · rw [if_neg (by intro h9; have h10 := congrArg List.length h9; rw [List.length_take, List.length_nil] at h10; omega)] at hjs
      rw [hjs] at hjl
      have kw := fun Hx (hx : HLe Hq Hx) J (hJ : BldIs pb (l ++ (text ++ [40]) ++ jn (L.take i) ++ [44, 32]) J) => ky Hx _ 0 pb _ J (hleq.trans hx) (hny.mono hx) hJ (by simp only [List.length_append, List.length_cons, List.length_nil] at *; omega)
      repeat' (first | (refine O_ev WideF.wide rfl (Ev_loadH rfl hcy rfl) rfl rfl ?_) | (show wpA _ _ _ (.region 22 _ _) _ _ _ _; refine A_freezeBox (cs := ncs y ya yn yc) (ncs_one _ _ _ _) ?_; intro H5 hle5 hc8; refine A_region ?_) | (refine O_ev WideF.wide rfl (Ev_loadH rfl hc8 rfl) rfl rfl ?_) | (show opsA _ _ _ _ (⟨some 91, .call _, _, _, _, _⟩ :: _) _ _; refine O_ef rfl (Ef_call0 WideF.wide (WriteString_fn _ pb _ ([44, 32]) _ hBi (by simp only [List.length_append, List.length_cons, List.length_nil] at *; omega)) ⟨rfl, rfl, trivial⟩ rfl ?_); rintro v91 G91 J91 gl91 ⟨rfl, hBs⟩) | (refine O_ef rfl (Ef_call0 WideF.wide (kw _ hle5 _ hBs) ⟨rfl, rfl, rfl, trivial⟩ rfl ?_); rintro v6 H6 I6 hle6 hBr) | refine O_nil ?_ | refine A_seq ?_ | refine A_region ?_ | refine A_skip ?_ | refine A_block ?_ | (show opsA _ _ _ _ _ _ _; first | refine O_ev WideF.wide rfl (Ev_pure rfl) rfl rfl ?_ | (show opsA _ _ _ _ (⟨_, .indexAddr _ _ _, _, _, _, _⟩ :: _) _ _; refine O_ev WideF.wide rfl (Ev_indexAddr rfl rfl (by omega) (by omega)) rfl rfl ?_) | (show opsA _ _ _ _ (⟨_, .binOp _ _ _ _ _, _, _, _, _⟩ :: _) _ _; refine O_ev WideF.wide rfl (Ev_add rfl rfl (wi64 (by omega))) rfl rfl ?_) | (show opsA _ _ _ _ (⟨_, .alloc _, _, _, _, _⟩ :: _) _ _; (refine O_ef rfl (Ef_alloc WideF.wide rfl ?_); intro b)) | (show opsA _ _ _ _ (⟨_, .store _ _ _, _, _, _, _⟩ :: _) _ _; refine O_ef rfl (Ef_storew WideF.wide rfl rfl rfl rfl rfl ?_))) | (show wpA _ _ _ (.cond _ _ _) _ _ _ _; (refine A_if rfl (fun h => ?_) (fun h => ?_) <;> try (exfalso; omega))))
      all_goals first
        | (exfalso; omega)
        | (exfalso; contradiction)
        | (exfalso; exact absurd trivial (by assumption))
        | (exfalso; exact absurd rfl (by assumption))
        | exact Shift.to ⟨_, by omega, i + 1, H6, I6, rfl, by omega, (hleq.trans hle5).trans hle6, (by rw [hjs]; simpa only [List.append_assoc, List.cons_append, List.nil_append] using hBr), rfl⟩ ⟨rfl, rfl, rfl, ⟨rfl, rfl, rfl, rfl, trivial⟩, Own.sub_refl _⟩
        | trace_state
  · obtain rfl : i = n := by omega
    rw [List.take_of_length_le (by omega)] at hBi
    repeat' (first | (show opsA _ _ _ _ (⟨some 97, .call _, _, _, _, _⟩ :: _) _ _; refine O_ef rfl (Ef_call0 WideF.wide (WriteByte_fn (u := 41) hBi (by simp only [List.length_append, List.length_cons, List.length_nil] at *; omega)) ⟨rfl, rfl, trivial⟩ rfl ?_); rintro v97 G97 J97 gl97 ⟨rfl, hBz⟩) | refine O_nil ?_ | refine A_seq ?_ | refine A_region ?_ | (show opsA _ _ _ _ _ _ _; refine O_ev WideF.wide rfl (Ev_pure rfl) rfl rfl ?_) | (show wpA _ _ _ (.exit _) _ _ _ _; refine A_exit rfl ?_) | (show wpA _ _ _ (.cond _ _ _) _ _ _ _; (refine A_if rfl (fun h => ?_) (fun h => ?_) <;> try (exfalso; omega))))
    all_goals first
      | (exfalso; omega)
      | (exfalso; contradiction)
      | (exfalso; exact absurd trivial (by assumption))
      | (exfalso; exact absurd rfl (by assumption))
      | exact EndD_nil rfl (End_m (Ret0 rfl) (by simpa only [List.append_assoc, List.cons_append, List.nil_append] using hBz))
      | trace_state
set_option maxRecDepth 100000 in
set_option maxHeartbeats 16000000 in
theorem write_5p {H : Hp} {num lv : Int} {text : List UInt8} {a : Option Addr} {n cp pb : Nat} {args : List Nd} {l : List UInt8} {I : Own} (hn : n ≤ 1000000) (hs : NodesS H a n cp args) (hB0 : BldIs pb l I) (ka : ∀ y ∈ args, WrN H y) (hlv : (stl 5).2.1 < lv) (hl : l.length + (par true (bod 5 num text (args.map wr))).length ≤ 35184372088832) :
    Fn Tryz.prog 47 [.pointer (some ⟨pb, 0, none⟩), .agg [.int .i64 5, .int .i64 num, sv text, .slice a n cp].toArray, .int .i64 lv] H I fun _ _ I' => BldIs pb (l ++ par true (bod 5 num text (args.map wr))) I' := by
  have hln := hs.len
  obtain ⟨L, hL⟩ : ∃ L, L = args.map fun y => wr y 0 := ⟨_, rfl⟩
  have e : bod 5 num text (args.map wr) = text ++ (40 :: (jn L ++ [41])) := by
    unfold bod
    rw [if_neg (by decide), if_neg (by decide), if_neg (by decide), if_neg (by decide), if_pos rfl, List.map_map, hL]
    rfl
  have e' : par true (bod 5 num text (args.map wr)) = 40 :: ((text ++ (40 :: (jn L ++ [41]))) ++ [41]) := by rw [e]; rfl
  rw [e'] at hl ⊢
  have hLl : L.length = n := by rw [hL, List.length_map]; exact hln
  refine Fn_ofD _ _ Tryz.func47 rfl Tryz.ntmps47 rfl fun c => ?_
  repeat' (first | (refine O_ef rfl (Ef_boxa WideF.wide (cs := [.int .i64 5, .int .i64 num, sv text, .slice _ _ _]) rfl rfl ?_); intro b9; refine O_freezeBox (by intro u hu; simp at hu; rcases hu with rfl | rfl | rfl | rfl <;> rfl) ?_; intro H1 hle1 hc) | (show opsA _ _ _ _ (⟨some 11, .call _, _, _, _, _⟩ :: _) _ _; refine O_ef rfl (Ef_call (I := []) WideF.wide (styles_fn (op := 5) (by omega)) ⟨rfl, trivial⟩ rfl ?_); rintro v2 H2 I2 hle2 ⟨rfl, rfl⟩) | (show wpA _ _ _ (.region 2 _ _) _ _ _ _; refine A_freezeBox (cs := rSt (stl 5)) (by intro u hu; simp at hu; rcases hu with rfl | rfl | rfl | rfl <;> rfl) ?_; intro H3 hle3 hs6; have h13 := hle2.trans hle3; refine A_region ?_) | (refine O_ev WideF.wide rfl (Ev_loadH1 rfl (hs6 1 _ rfl)) rfl rfl ?_) | (refine O_ev WideF.wide rfl (Ev_loadH1 rfl (h13 _ _ _ (hc 0 _ rfl))) rfl rfl ?_) | (refine O_ev WideF.wide rfl (Ev_loadH1 rfl (h13 _ _ _ (hc 2 _ rfl))) rfl rfl ?_) | (refine O_ev WideF.wide rfl (Ev_loadH1 rfl (h13 _ _ _ (hc 3 _ rfl))) rfl rfl ?_) | (show opsA _ _ _ _ (⟨some 17, .call _, _, _, _, _⟩ :: _) _ _; refine O_ef rfl (Ef_call0 WideF.wide (WriteByte_fn (u := 40) hB0 (by simp only [List.length_append, List.length_cons, List.length_nil] at *; omega)) ⟨rfl, rfl, trivial⟩ rfl ?_); rintro v17 G17 J17 gl17 ⟨rfl, hBp⟩) | (refine O_ef rfl (Ef_deferF (args := [.pointer (some ⟨pb, 0, none⟩), .int .u8 (((41 : UInt8).toNat : Nat) : Int)]) WideF.wide rfl ⟨rfl, rfl, trivial⟩ ?_)) | (refine O_ev WideF.wide rfl (Ev_scat (s := text) (s2 := [40]) rfl rfl (by simp only [List.length_append, List.length_cons, List.length_nil] at *; omega)) rfl rfl ?_) | (show opsA _ _ _ _ (⟨some 79, .call _, _, _, _, _⟩ :: _) _ _; refine O_ef rfl (Ef_call0 WideF.wide (WriteString_fn _ pb _ (text ++ [40]) _ hBp (by simp only [List.length_append, List.length_cons, List.length_nil] at *; omega)) ⟨rfl, rfl, trivial⟩ rfl ?_); rintro v79 G79 J79 gl79 ⟨rfl, hBq⟩) | refine O_nil ?_ | refine A_seq ?_ | refine A_region ?_ | refine A_block ?_ | (show opsA _ _ _ _ _ _ _; first | refine O_ev WideF.wide rfl (Ev_pure rfl) rfl rfl ?_ | (show opsA _ _ _ _ (⟨_, .load _ _, _, _, _, _⟩ :: _) _ _; refine O_ev WideF.wide rfl (Ev_loadH1 rfl (hc 0 _ rfl)) rfl rfl ?_) | (show opsA _ _ _ _ (⟨_, .fieldAddr _ _ _, _, _, _, _⟩ :: _) _ _; refine O_ev WideF.wide rfl (Ev_fieldAddr rfl rfl rfl) rfl rfl ?_) | (show opsA _ _ _ _ (⟨_, .call _, _, _, _, _⟩ :: _) _ _; refine O_ev WideF.wide rfl (Ev_llen rfl) rfl rfl ?_) | (show opsA _ _ _ _ (⟨_, .alloc _, _, _, _, _⟩ :: _) _ _; (refine O_ef rfl (Ef_alloc WideF.wide rfl ?_); intro b)) | (show opsA _ _ _ _ (⟨_, .store _ _ _, _, _, _, _⟩ :: _) _ _; refine O_ef rfl (Ef_storew WideF.wide rfl rfl rfl rfl rfl ?_))) | (show wpA _ _ _ (.cond _ _ _) _ _ _ _; (refine A_if rfl (fun h => ?_) (fun h => ?_) <;> try (exfalso; omega))))
  all_goals try (exfalso; first | omega | contradiction | exact absurd trivial (by assumption))
  have h03 := hle1.trans h13
  refine A_loopu (fun m st => ∃ (i : Nat) (Hq : Hp) (Iq : Own), m = n - i ∧ i ≤ n ∧ HLe H Hq ∧ BldIs pb ((l ++ [40]) ++ (text ++ [40]) ++ jn (L.take i)) Iq ∧ st = ⟨113, [(0, .pointer (some ⟨pb, 0, none⟩)), (81, .slice a n cp), (82, .int .i64 n), (83, .int .i64 i)], Hq, Iq, [], [{ target := .fn (.func 90) #[], args := [.pointer (some ⟨pb, 0, none⟩), .int .u8 (((41 : UInt8).toNat : Nat) : Int)].toArray }]⟩) ?_ ?_
  · exact Shift.to ⟨_, 0, _, _, rfl, by omega, h03, (by simpa [jn] using hBq), rfl⟩ ⟨rfl, rfl, rfl, ⟨rfl, rfl, rfl, rfl, trivial⟩, Own.sub_refl _⟩
  rintro m st ⟨i, Hq, Iq, rfl, hi, hleq, hBi, rfl⟩
  by_cases hlt : i < n
  · obtain ⟨y, hy⟩ : ∃ y, args[i]? = some y := ⟨args[i]'(by omega), by simp [show i < args.length by omega]⟩
    obtain ⟨by0, oy, ya, yn, yc, rfl, hny, hcy⟩ := node_at (hs.mono hleq) i hlt hy
    have hLi : L[i]? = some (wr y 0) := by rw [hL, List.getElem?_map, hy]; rfl
    have htk : L.take (i + 1) = L.take i ++ [wr y 0] := take_getN hLi
    have hjs := jn_snoc (L.take i) (wr y 0)
    rw [← htk] at hjs
    have hjl := jn_take_le L (i + 1)
    have ky := ka y (List.mem_of_getElem? hy)
    by_cases hi0 : i = 0
    · rw [if_pos (by rw [hi0]; rfl)] at hjs
      have hBi' : BldIs pb ((l ++ [40]) ++ (text ++ [40])) Iq := by rw [hi0] at hBi; simpa [jn] using hBi
      rw [hjs] at hjl
      have kw := fun Hx (hx : HLe Hq Hx) => ky Hx _ 0 pb ((l ++ [40]) ++ (text ++ [40])) Iq (hleq.trans hx) (hny.mono hx) hBi' (by simp only [List.length_append, List.length_cons, List.length_nil] at *; omega)
      repeat' (first | (refine O_ev WideF.wide rfl (Ev_loadH rfl hcy rfl) rfl rfl ?_) | (show wpA _ _ _ (.region 22 _ _) _ _ _ _; refine A_freezeBox (cs := ncs y ya yn yc) (ncs_one _ _ _ _) ?_; intro H5 hle5 hc8; refine A_region ?_) | (refine O_ev WideF.wide rfl (Ev_loadH rfl hc8 rfl) rfl rfl ?_) | (refine O_ef rfl (Ef_call0 WideF.wide (kw _ hle5) ⟨rfl, rfl, rfl, trivial⟩ rfl ?_); rintro v6 H6 I6 hle6 hBr) | refine O_nil ?_ | refine A_seq ?_ | refine A_region ?_ | refine A_skip ?_ | refine A_block ?_ | (show opsA _ _ _ _ _ _ _; first | refine O_ev WideF.wide rfl (Ev_pure rfl) rfl rfl ?_ | (show opsA _ _ _ _ (⟨_, .indexAddr _ _ _, _, _, _, _⟩ :: _) _ _; refine O_ev WideF.wide rfl (Ev_indexAddr rfl rfl (by omega) (by omega)) rfl rfl ?_) | (show opsA _ _ _ _ (⟨_, .binOp _ _ _ _ _, _, _, _, _⟩ :: _) _ _; refine O_ev WideF.wide rfl (Ev_add rfl rfl (wi64 (by omega))) rfl rfl ?_) | (show opsA _ _ _ _ (⟨_, .alloc _, _, _, _, _⟩ :: _) _ _; (refine O_ef rfl (Ef_alloc WideF.wide rfl ?_); intro b)) | (show opsA _ _ _ _ (⟨_, .store _ _ _, _, _, _, _⟩ :: _) _ _; refine O_ef rfl (Ef_storew WideF.wide rfl rfl rfl rfl rfl ?_))) | (show wpA _ _ _ (.cond _ _ _) _ _ _ _; (refine A_if rfl (fun h => ?_) (fun h => ?_) <;> try (exfalso; omega))))
      all_goals first
        | (exfalso; omega)
        | (exfalso; contradiction)
        | (exfalso; exact absurd trivial (by assumption))
        | (exfalso; exact absurd rfl (by assumption))
        | exact Shift.to ⟨_, by omega, i + 1, H6, I6, rfl, by omega, (hleq.trans hle5).trans hle6, (by rw [hjs]; exact hBr), rfl⟩ ⟨rfl, rfl, rfl, ⟨rfl, rfl, rfl, rfl, trivial⟩, Own.sub_refl _⟩
        | trace_state
    · rw [if_neg (by intro h9; have h10 := congrArg List.length h9; rw [List.length_take, List.length_nil] at h10; omega)] at hjs
      rw [hjs] at hjl
      have kw := fun Hx (hx : HLe Hq Hx) J (hJ : BldIs pb ((l ++ [40]) ++ (text ++ [40]) ++ jn (L.take i) ++ [44, 32]) J) => ky Hx _ 0 pb _ J (hleq.trans hx) (hny.mono hx) hJ (by simp only [List.length_append, List.length_cons, List.length_nil] at *; omega)
      repeat' (first | (refine O_ev WideF.wide rfl (Ev_loadH rfl hcy rfl) rfl rfl ?_) | (show wpA _ _ _ (.region 22 _ _) _ _ _ _; refine A_freezeBox (cs := ncs y ya yn yc) (ncs_one _ _ _ _) ?_; intro H5 hle5 hc8; refine A_region ?_) | (refine O_ev WideF.wide rfl (Ev_loadH rfl hc8 rfl) rfl rfl ?_) | (show opsA _ _ _ _ (⟨some 91, .call _, _, _, _, _⟩ :: _) _ _; refine O_ef rfl (Ef_call0 WideF.wide (WriteString_fn _ pb _ ([44, 32]) _ hBi (by simp only [List.length_append, List.length_cons, List.length_nil] at *; omega)) ⟨rfl, rfl, trivial⟩ rfl ?_); rintro v91 G91 J91 gl91 ⟨rfl, hBs⟩) | (refine O_ef rfl (Ef_call0 WideF.wide (kw _ hle5 _ hBs) ⟨rfl, rfl, rfl, trivial⟩ rfl ?_); rintro v6 H6 I6 hle6 hBr) | refine O_nil ?_ | refine A_seq ?_ | refine A_region ?_ | refine A_skip ?_ | refine A_block ?_ | (show opsA _ _ _ _ _ _ _; first | refine O_ev WideF.wide rfl (Ev_pure rfl) rfl rfl ?_ | (show opsA _ _ _ _ (⟨_, .indexAddr _ _ _, _, _, _, _⟩ :: _) _ _; refine O_ev WideF.wide rfl (Ev_indexAddr rfl rfl (by omega) (by omega)) rfl rfl ?_) | (show opsA _ _ _ _ (⟨_, .binOp _ _ _ _ _, _, _, _, _⟩ :: _) _ _; refine O_ev WideF.wide rfl (Ev_add rfl rfl (wi64 (by omega))) rfl rfl ?_) | (show opsA _ _ _ _ (⟨_, .alloc _, _, _, _, _⟩ :: _) _ _; (refine O_ef rfl (Ef_alloc WideF.wide rfl ?_); intro b)) | (show opsA _ _ _ _ (⟨_, .store _ _ _, _, _, _, _⟩ :: _) _ _; refine O_ef rfl (Ef_storew WideF.wide rfl rfl rfl rfl rfl ?_))) | (show wpA _ _ _ (.cond _ _ _) _ _ _ _; (refine A_if rfl (fun h => ?_) (fun h => ?_) <;> try (exfalso; omega))))
      all_goals first
        | (exfalso; omega)
        | (exfalso; contradiction)
        | (exfalso; exact absurd trivial (by assumption))
        | (exfalso; exact absurd rfl (by assumption))
        | exact Shift.to ⟨_, by omega, i + 1, H6, I6, rfl, by omega, (hleq.trans hle5).trans hle6, (by rw [hjs]; simpa only [List.append_assoc, List.cons_append, List.nil_append] using hBr), rfl⟩ ⟨rfl, rfl, rfl, ⟨rfl, rfl, rfl, rfl, trivial⟩, Own.sub_refl _⟩
        | trace_state
  · obtain rfl : i = n := by omega
    rw [List.take_of_length_le (by omega)] at hBi
    repeat' (first | (show opsA _ _ _ _ (⟨some 97, .call _, _, _, _, _⟩ :: _) _ _; refine O_ef rfl (Ef_call0 WideF.wide (WriteByte_fn (u := 41) hBi (by simp only [List.length_append, List.length_cons, List.length_nil] at *; omega)) ⟨rfl, rfl, trivial⟩ rfl ?_); rintro v97 G97 J97 gl97 ⟨rfl, hBz⟩) | refine O_nil ?_ | refine A_seq ?_ | refine A_region ?_ | (show opsA _ _ _ _ _ _ _; refine O_ev WideF.wide rfl (Ev_pure rfl) rfl rfl ?_) | (show wpA _ _ _ (.exit _) _ _ _ _; refine A_exit rfl ?_) | (show wpA _ _ _ (.cond _ _ _) _ _ _ _; (refine A_if rfl (fun h => ?_) (fun h => ?_) <;> try (exfalso; omega))))
    all_goals first
      | (exfalso; omega)
      | (exfalso; contradiction)
      | (exfalso; exact absurd trivial (by assumption))
      | (exfalso; exact absurd rfl (by assumption))
      | (refine EndD_one0 (cap := []) (WriteByte_d (u := 41) hBz (by simp only [List.length_append, List.length_cons, List.length_nil] at *; omega)) ?_; rintro H' I' hl' ⟨rfl, hB'⟩; exact ⟨_, Ret0 rfl, rfl, Shift.pure ⟨rfl, (by simpa only [List.append_assoc, List.cons_append, List.nil_append] using hB')⟩⟩)
      | trace_state
end Go.Proofs.YtnoadopmeoohmaaGreatDoor
