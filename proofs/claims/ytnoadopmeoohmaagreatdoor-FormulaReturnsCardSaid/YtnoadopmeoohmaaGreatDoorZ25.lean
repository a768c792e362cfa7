import Derived.Test.YtnoadopmeoohmaaGreatDoorZ23
import Derived.Test.YtnoadopmeoohmaaGreatDoorZ24
/-
  write by cases. Printed by genF29.py.
-/
namespace Go.Proofs.YtnoadopmeoohmaaGreatDoor
open Go
set_option linter.unusedVariables false
set_option linter.unusedSimpArgs false
attribute [local irreducible] wpA opsA drJ drQ drE Ef Ev Shift Fn
set_option maxRecDepth 100000 in
set_option maxHeartbeats 16000000 in
theorem write_1q {H : Hp} {num lv : Int} {text : List UInt8} {a : Option Addr} {n cp pb : Nat} {args : List Nd} {l : List UInt8} {I : Own} (hs : NodesS H a n cp args) (hB0 : BldIs pb l I) (hnum : I64 num) (hlv : ¬ (stl 1).2.1 < lv) (hl : l.length + (par false (bod 1 num text (args.map wr))).length ≤ 35184372088832) :
    Fn Tryz.prog 47 [.pointer (some ⟨pb, 0, none⟩), .agg [.int .i64 1, .int .i64 num, sv text, .slice a n cp].toArray, .int .i64 lv] H I fun _ _ I' => BldIs pb (l ++ par false (bod 1 num text (args.map wr))) I' := by

  have e : bod 1 num text (args.map wr) = Lib.itoa num := rfl
  have e' : par false (bod 1 num text (args.map wr)) = Lib.itoa num := by rw [e]; first | rfl | (rw [hrp]; rfl)
  rw [e'] at hl ⊢
  refine Fn_ofD _ _ Tryz.func47 rfl Tryz.ntmps47 rfl fun c => ?_
  repeat' (first | (refine O_ef rfl (Ef_boxa WideF.wide (cs := [.int .i64 1, .int .i64 num, sv text, .slice _ _ _]) rfl rfl ?_); intro b9; refine O_freezeBox (by intro u hu; simp at hu; rcases hu with rfl | rfl | rfl | rfl <;> rfl) ?_; intro H1 hle1 hc) | (show opsA _ _ _ _ (⟨some 11, .call _, _, _, _, _⟩ :: _) _ _; refine O_ef rfl (Ef_call (I := []) WideF.wide (styles_fn (op := 1) (by omega)) ⟨rfl, trivial⟩ rfl ?_); rintro v2 H2 I2 hle2 ⟨rfl, rfl⟩) | (show wpA _ _ _ (.region 2 _ _) _ _ _ _; refine A_freezeBox (cs := rSt (stl 1)) (by intro u hu; simp at hu; rcases hu with rfl | rfl | rfl | rfl <;> rfl) ?_; intro H3 hle3 hs6; have h13 := hle2.trans hle3; refine A_region ?_) | (refine O_ev WideF.wide rfl (Ev_loadH1 rfl (hs6 1 _ rfl)) rfl rfl ?_) | (refine O_ev WideF.wide rfl (Ev_loadH1 rfl (h13 _ _ _ (hc 0 _ rfl))) rfl rfl ?_) | (refine O_ev WideF.wide rfl (Ev_loadH1 rfl (h13 _ _ _ (hc 1 _ rfl))) rfl rfl ?_) | (refine O_ef rfl (Ef_callp WideF.wide (ItoaI_fn hnum) ⟨rfl, trivial⟩ rfl ?_)) | (show opsA _ _ _ _ (⟨some 49, .call _, _, _, _, _⟩ :: _) _ _; refine O_ef rfl (Ef_call0 WideF.wide (WriteString_fn _ pb _ (Lib.itoa num) _ hB0 (by simp only [List.length_append, List.length_cons, List.length_nil] at *; omega)) ⟨rfl, rfl, trivial⟩ rfl ?_); rintro v49 G49 J49 gl49 ⟨rfl, hBq⟩) | refine O_nil ?_ | refine A_seq ?_ | refine A_region ?_ | refine A_skip ?_ | refine A_block ?_ | (show opsA _ _ _ _ _ _ _; first | refine O_ev WideF.wide rfl (Ev_pure rfl) rfl rfl ?_ | (show opsA _ _ _ _ (⟨_, .load _ _, _, _, _, _⟩ :: _) _ _; refine O_ev WideF.wide rfl (Ev_loadH1 rfl (hc 0 _ rfl)) rfl rfl ?_) | (show opsA _ _ _ _ (⟨_, .fieldAddr _ _ _, _, _, _, _⟩ :: _) _ _; refine O_ev WideF.wide rfl (Ev_fieldAddr rfl rfl rfl) rfl rfl ?_) | (show opsA _ _ _ _ (⟨_, .alloc _, _, _, _, _⟩ :: _) _ _; (refine O_ef rfl (Ef_alloc WideF.wide rfl ?_); intro b)) | (show opsA _ _ _ _ (⟨_, .store _ _ _, _, _, _, _⟩ :: _) _ _; refine O_ef rfl (Ef_storew WideF.wide rfl rfl rfl rfl rfl ?_))) | (show wpA _ _ _ (.cond _ _ _) _ _ _ _; (refine A_if rfl (fun h => ?_) (fun h => ?_) <;> try (exfalso; omega))))
  all_goals first
    | (exfalso; omega)
    | (exfalso; contradiction)
    | (exfalso; exact absurd trivial (by assumption))
    | (exfalso; exact absurd rfl (by assumption))
    | exact EndD_nil rfl (End_m (Ret0 rfl) (by simpa only [List.append_assoc, List.cons_append, List.nil_append] using hBq))
    | trace_state
set_option maxRecDepth 100000 in
set_option maxHeartbeats 16000000 in
theorem write_1p {H : Hp} {num lv : Int} {text : List UInt8} {a : Option Addr} {n cp pb : Nat} {args : List Nd} {l : List UInt8} {I : Own} (hs : NodesS H a n cp args) (hB0 : BldIs pb l I) (hnum : I64 num) (hlv : (stl 1).2.1 < lv) (hl : l.length + (par true (bod 1 num text (args.map wr))).length ≤ 35184372088832) :
    Fn Tryz.prog 47 [.pointer (some ⟨pb, 0, none⟩), .agg [.int .i64 1, .int .i64 num, sv text, .slice a n cp].toArray, .int .i64 lv] H I fun _ _ I' => BldIs pb (l ++ par true (bod 1 num text (args.map wr))) I' := by

  have e : bod 1 num text (args.map wr) = Lib.itoa num := rfl
  have e' : par true (bod 1 num text (args.map wr)) = 40 :: (Lib.itoa num ++ [41]) := by rw [e]; first | rfl | (rw [hrp]; rfl)
  rw [e'] at hl ⊢
  refine Fn_ofD _ _ Tryz.func47 rfl Tryz.ntmps47 rfl fun c => ?_
  repeat' (first | (refine O_ef rfl (Ef_boxa WideF.wide (cs := [.int .i64 1, .int .i64 num, sv text, .slice _ _ _]) rfl rfl ?_); intro b9; refine O_freezeBox (by intro u hu; simp at hu; rcases hu with rfl | rfl | rfl | rfl <;> rfl) ?_; intro H1 hle1 hc) | (show opsA _ _ _ _ (⟨some 11, .call _, _, _, _, _⟩ :: _) _ _; refine O_ef rfl (Ef_call (I := []) WideF.wide (styles_fn (op := 1) (by omega)) ⟨rfl, trivial⟩ rfl ?_); rintro v2 H2 I2 hle2 ⟨rfl, rfl⟩) | (show wpA _ _ _ (.region 2 _ _) _ _ _ _; refine A_freezeBox (cs := rSt (stl 1)) (by intro u hu; simp at hu; rcases hu with rfl | rfl | rfl | rfl <;> rfl) ?_; intro H3 hle3 hs6; have h13 := hle2.trans hle3; refine A_region ?_) | (refine O_ev WideF.wide rfl (Ev_loadH1 rfl (hs6 1 _ rfl)) rfl rfl ?_) | (refine O_ev WideF.wide rfl (Ev_loadH1 rfl (h13 _ _ _ (hc 0 _ rfl))) rfl rfl ?_) | (refine O_ev WideF.wide rfl (Ev_loadH1 rfl (h13 _ _ _ (hc 1 _ rfl))) rfl rfl ?_) | (show opsA _ _ _ _ (⟨some 17, .call _, _, _, _, _⟩ :: _) _ _; refine O_ef rfl (Ef_call0 WideF.wide (WriteByte_fn (u := 40) hB0 (by simp only [List.length_append, List.length_cons, List.length_nil] at *; omega)) ⟨rfl, rfl, trivial⟩ rfl ?_); rintro v17 G17 J17 gl17 ⟨rfl, hBp⟩) | (refine O_ef rfl (Ef_deferF (args := [.pointer (some ⟨pb, 0, none⟩), .int .u8 (((41 : UInt8).toNat : Nat) : Int)]) WideF.wide rfl ⟨rfl, rfl, trivial⟩ ?_)) | (refine O_ef rfl (Ef_callp WideF.wide (ItoaI_fn hnum) ⟨rfl, trivial⟩ rfl ?_)) | (show opsA _ _ _ _ (⟨some 49, .call _, _, _, _, _⟩ :: _) _ _; refine O_ef rfl (Ef_call0 WideF.wide (WriteString_fn _ pb _ (Lib.itoa num) _ hBp (by simp only [List.length_append, List.length_cons, List.length_nil] at *; omega)) ⟨rfl, rfl, trivial⟩ rfl ?_); rintro v49 G49 J49 gl49 ⟨rfl, hBq⟩) | refine O_nil ?_ | refine A_seq ?_ | refine A_region ?_ | refine A_block ?_ | (show opsA _ _ _ _ _ _ _; first | refine O_ev WideF.wide rfl (Ev_pure rfl) rfl rfl ?_ | (show opsA _ _ _ _ (⟨_, .load _ _, _, _, _, _⟩ :: _) _ _; refine O_ev WideF.wide rfl (Ev_loadH1 rfl (hc 0 _ rfl)) rfl rfl ?_) | (show opsA _ _ _ _ (⟨_, .fieldAddr _ _ _, _, _, _, _⟩ :: _) _ _; refine O_ev WideF.wide rfl (Ev_fieldAddr rfl rfl rfl) rfl rfl ?_) | (show opsA _ _ _ _ (⟨_, .alloc _, _, _, _, _⟩ :: _) _ _; (refine O_ef rfl (Ef_alloc WideF.wide rfl ?_); intro b)) | (show opsA _ _ _ _ (⟨_, .store _ _ _, _, _, _, _⟩ :: _) _ _; refine O_ef rfl (Ef_storew WideF.wide rfl rfl rfl rfl rfl ?_))) | (show wpA _ _ _ (.cond _ _ _) _ _ _ _; (refine A_if rfl (fun h => ?_) (fun h => ?_) <;> try (exfalso; omega))))
  all_goals first
    | (exfalso; omega)
    | (exfalso; contradiction)
    | (exfalso; exact absurd trivial (by assumption))
    | (exfalso; exact absurd rfl (by assumption))
    | (refine EndD_one0 (cap := []) (WriteByte_d (u := 41) hBq (by simp only [List.length_append, List.length_cons, List.length_nil] at *; omega)) ?_; rintro H' I' hl' ⟨rfl, hB'⟩; exact ⟨_, Ret0 rfl, rfl, Shift.pure ⟨rfl, (by simpa only [List.append_assoc, List.cons_append, List.nil_append] using hB')⟩⟩)
    | trace_state
set_option maxRecDepth 100000 in
set_option maxHeartbeats 16000000 in
theorem write_3q {H : Hp} {num lv : Int} {text : List UInt8} {a : Option Addr} {n cp pb : Nat} {args : List Nd} {l : List UInt8} {I : Own} (hs : NodesS H a n cp args) (hB0 : BldIs pb l I) (hlv : ¬ (stl 3).2.1 < lv) (hl : l.length + (par false (bod 3 num text (args.map wr))).length ≤ 35184372088832) :
    Fn Tryz.prog 47 [.pointer (some ⟨pb, 0, none⟩), .agg [.int .i64 3, .int .i64 num, sv text, .slice a n cp].toArray, .int .i64 lv] H I fun _ _ I' => BldIs pb (l ++ par false (bod 3 num text (args.map wr))) I' := by
  have kb : ∀ Hx, FnP Tryz.prog 64 [.bool (decide (num = 1))] Hx (sv (fbool (decide (num = 1)))) := fun Hx => by
    by_cases h1 : num = 1
    · simp only [h1, decide_true]; exact FormatBool_true
    · simp only [h1, decide_false]; exact FormatBool_false
  have e : bod 3 num text (args.map wr) = fbool (decide (num = 1)) := rfl
  have e' : par false (bod 3 num text (args.map wr)) = fbool (decide (num = 1)) := by rw [e]; first | rfl | (rw [hrp]; rfl)
  rw [e'] at hl ⊢
  refine Fn_ofD _ _ Tryz.func47 rfl Tryz.ntmps47 rfl fun c => ?_
  repeat' (first | (refine O_ef rfl (Ef_boxa WideF.wide (cs := [.int .i64 3, .int .i64 num, sv text, .slice _ _ _]) rfl rfl ?_); intro b9; refine O_freezeBox (by intro u hu; simp at hu; rcases hu with rfl | rfl | rfl | rfl <;> rfl) ?_; intro H1 hle1 hc) | (show opsA _ _ _ _ (⟨some 11, .call _, _, _, _, _⟩ :: _) _ _; refine O_ef rfl (Ef_call (I := []) WideF.wide (styles_fn (op := 3) (by omega)) ⟨rfl, trivial⟩ rfl ?_); rintro v2 H2 I2 hle2 ⟨rfl, rfl⟩) | (show wpA _ _ _ (.region 2 _ _) _ _ _ _; refine A_freezeBox (cs := rSt (stl 3)) (by intro u hu; simp at hu; rcases hu with rfl | rfl | rfl | rfl <;> rfl) ?_; intro H3 hle3 hs6; have h13 := hle2.trans hle3; refine A_region ?_) | (refine O_ev WideF.wide rfl (Ev_loadH1 rfl (hs6 1 _ rfl)) rfl rfl ?_) | (refine O_ev WideF.wide rfl (Ev_loadH1 rfl (h13 _ _ _ (hc 0 _ rfl))) rfl rfl ?_) | (refine O_ev WideF.wide rfl (Ev_loadH1 rfl (h13 _ _ _ (hc 1 _ rfl))) rfl rfl ?_) | (refine O_ef rfl (Ef_callp WideF.wide (kb _) ⟨rfl, trivial⟩ rfl ?_)) | (show opsA _ _ _ _ (⟨some 57, .call _, _, _, _, _⟩ :: _) _ _; refine O_ef rfl (Ef_call0 WideF.wide (WriteString_fn _ pb _ (fbool (decide (num = 1))) _ hB0 (by simp only [List.length_append, List.length_cons, List.length_nil] at *; omega)) ⟨rfl, rfl, trivial⟩ rfl ?_); rintro v57 G57 J57 gl57 ⟨rfl, hBq⟩) | refine O_nil ?_ | refine A_seq ?_ | refine A_region ?_ | refine A_skip ?_ | refine A_block ?_ | (show opsA _ _ _ _ _ _ _; first | refine O_ev WideF.wide rfl (Ev_pure rfl) rfl rfl ?_ | (show opsA _ _ _ _ (⟨_, .load _ _, _, _, _, _⟩ :: _) _ _; refine O_ev WideF.wide rfl (Ev_loadH1 rfl (hc 0 _ rfl)) rfl rfl ?_) | (show opsA _ _ _ _ (⟨_, .fieldAddr _ _ _, _, _, _, _⟩ :: _) _ _; refine O_ev WideF.wide rfl (Ev_fieldAddr rfl rfl rfl) rfl rfl ?_) | (show opsA _ _ _ _ (⟨_, .alloc _, _, _, _, _⟩ :: _) _ _; (refine O_ef rfl (Ef_alloc WideF.wide rfl ?_); intro b)) | (show opsA _ _ _ _ (⟨_, .store _ _ _, _, _, _, _⟩ :: _) _ _; refine O_ef rfl (Ef_storew WideF.wide rfl rfl rfl rfl rfl ?_))) | (show wpA _ _ _ (.cond _ _ _) _ _ _ _; (refine A_if rfl (fun h => ?_) (fun h => ?_) <;> try (exfalso; omega))))
  all_goals first
    | (exfalso; omega)
    | (exfalso; contradiction)
    | (exfalso; exact absurd trivial (by assumption))
    | (exfalso; exact absurd rfl (by assumption))
    | exact EndD_nil rfl (End_m (Ret0 rfl) (by simpa only [List.append_assoc, List.cons_append, List.nil_append] using hBq))
    | trace_state
set_option maxRecDepth 100000 in
set_option maxHeartbeats 16000000 in
theorem write_3p {H : Hp} {num lv : Int} {text : List UInt8} {a : Option Addr} {n cp pb : Nat} {args : List Nd} {l : List UInt8} {I : Own} (hs : NodesS H a n cp args) (hB0 : BldIs pb l I) (hlv : (stl 3).2.1 < lv) (hl : l.length + (par true (bod 3 num text (args.map wr))).length ≤ 35184372088832) :
    Fn Tryz.prog 47 [.pointer (some ⟨pb, 0, none⟩), .agg [.int .i64 3, .int .i64 num, sv text, .slice a n cp].toArray, .int .i64 lv] H I fun _ _ I' => BldIs pb (l ++ par true (bod 3 num text (args.map wr))) I' := by
  have kb : ∀ Hx, FnP Tryz.prog 64 [.bool (decide (num = 1))] Hx (sv (fbool (decide (num = 1)))) := fun Hx => by
    by_cases h1 : num = 1
    · simp only [h1, decide_true]; exact FormatBool_true
    · simp only [h1, decide_false]; exact FormatBool_false
  have e : bod 3 num text (args.map wr) = fbool (decide (num = 1)) := rfl
  have e' : par true (bod 3 num text (args.map wr)) = 40 :: (fbool (decide (num = 1)) ++ [41]) := by rw [e]; first | rfl | (rw [hrp]; rfl)
  rw [e'] at hl ⊢
  refine Fn_ofD _ _ Tryz.func47 rfl Tryz.ntmps47 rfl fun c => ?_
  repeat' (first | (refine O_ef rfl (Ef_boxa WideF.wide (cs := [.int .i64 3, .int .i64 num, sv text, .slice _ _ _]) rfl rfl ?_); intro b9; refine O_freezeBox (by intro u hu; simp at hu; rcases hu with rfl | rfl | rfl | rfl <;> rfl) ?_; intro H1 hle1 hc) | (show opsA _ _ _ _ (⟨some 11, .call _, _, _, _, _⟩ :: _) _ _; refine O_ef rfl (Ef_call (I := []) WideF.wide (styles_fn (op := 3) (by omega)) ⟨rfl, trivial⟩ rfl ?_); rintro v2 H2 I2 hle2 ⟨rfl, rfl⟩) | (show wpA _ _ _ (.region 2 _ _) _ _ _ _; refine A_freezeBox (cs := rSt (stl 3)) (by intro u hu; simp at hu; rcases hu with rfl | rfl | rfl | rfl <;> rfl) ?_; intro H3 hle3 hs6; have h13 := hle2.trans hle3; refine A_region ?_) | (refine O_ev WideF.wide rfl (Ev_loadH1 rfl (hs6 1 _ rfl)) rfl rfl ?_) | (refine O_ev WideF.wide rfl (Ev_loadH1 rfl (h13 _ _ _ (hc 0 _ rfl))) rfl rfl ?_) | (refine O_ev WideF.wide rfl (Ev_loadH1 rfl (h13 _ _ _ (hc 1 _ rfl))) rfl rfl ?_) | (show opsA _ _ _ _ (⟨some 17, .call _, _, _, _, _⟩ :: _) _ _; refine O_ef rfl (Ef_call0 WideF.wide (WriteByte_fn (u := 40) hB0 (by simp only [List.length_append, List.length_cons, List.length_nil] at *; omega)) ⟨rfl, rfl, trivial⟩ rfl ?_); rintro v17 G17 J17 gl17 ⟨rfl, hBp⟩) | (refine O_ef rfl (Ef_deferF (args := [.pointer (some ⟨pb, 0, none⟩), .int .u8 (((41 : UInt8).toNat : Nat) : Int)]) WideF.wide rfl ⟨rfl, rfl, trivial⟩ ?_)) | (refine O_ef rfl (Ef_callp WideF.wide (kb _) ⟨rfl, trivial⟩ rfl ?_)) | (show opsA _ _ _ _ (⟨some 57, .call _, _, _, _, _⟩ :: _) _ _; refine O_ef rfl (Ef_call0 WideF.wide (WriteString_fn _ pb _ (fbool (decide (num = 1))) _ hBp (by simp only [List.length_append, List.length_cons, List.length_nil] at *; omega)) ⟨rfl, rfl, trivial⟩ rfl ?_); rintro v57 G57 J57 gl57 ⟨rfl, hBq⟩) | refine O_nil ?_ | refine A_seq ?_ | refine A_region ?_ | refine A_block ?_ | (show opsA _ _ _ _ _ _ _; first | refine O_ev WideF.wide rfl (Ev_pure rfl) rfl rfl ?_ | (show opsA _ _ _ _ (⟨_, .load _ _, _, _, _, _⟩ :: _) _ _; refine O_ev WideF.wide rfl (Ev_loadH1 rfl (hc 0 _ rfl)) rfl rfl ?_) | (show opsA _ _ _ _ (⟨_, .fieldAddr _ _ _, _, _, _, _⟩ :: _) _ _; refine O_ev WideF.wide rfl (Ev_fieldAddr rfl rfl rfl) rfl rfl ?_) | (show opsA _ _ _ _ (⟨_, .alloc _, _, _, _, _⟩ :: _) _ _; (refine O_ef rfl (Ef_alloc WideF.wide rfl ?_); intro b)) | (show opsA _ _ _ _ (⟨_, .store _ _ _, _, _, _, _⟩ :: _) _ _; refine O_ef rfl (Ef_storew WideF.wide rfl rfl rfl rfl rfl ?_))) | (show wpA _ _ _ (.cond _ _ _) _ _ _ _; (refine A_if rfl (fun h => ?_) (fun h => ?_) <;> try (exfalso; omega))))
  all_goals first
    | (exfalso; omega)
    | (exfalso; contradiction)
    | (exfalso; exact absurd trivial (by assumption))
    | (exfalso; exact absurd rfl (by assumption))
    | (refine EndD_one0 (cap := []) (WriteByte_d (u := 41) hBq (by simp only [List.length_append, List.length_cons, List.length_nil] at *; omega)) ?_; rintro H' I' hl' ⟨rfl, hB'⟩; exact ⟨_, Ret0 rfl, rfl, Shift.pure ⟨rfl, (by simpa only [List.append_assoc, List.cons_append, List.nil_append] using hB')⟩⟩)
    | trace_state
set_option maxRecDepth 100000 in
set_option maxHeartbeats 16000000 in
theorem write_2q {H : Hp} {num lv : Int} {text : List UInt8} {a : Option Addr} {n cp pb : Nat} {args : List Nd} {l : List UInt8} {I : Own} (hs : NodesS H a n cp args) (hB0 : BldIs pb l I) (ht : text.length ≤ 1024) (hV : VarsH H) (hlv : ¬ (stl 2).2.1 < lv) (hl : l.length + (par false (bod 2 num text (args.map wr))).length ≤ 35184372088832) :
    Fn Tryz.prog 47 [.pointer (some ⟨pb, 0, none⟩), .agg [.int .i64 2, .int .i64 num, sv text, .slice a n cp].toArray, .int .i64 lv] H I fun _ _ I' => BldIs pb (l ++ par false (bod 2 num text (args.map wr))) I' := by
  have kr := fun Hx (hx : HLe H Hx) => ReplaceAll_fn (H := Hx) (l := text) (old := [34]) (new := [34, 34]) (by omega) (by simp) (by simp) (hV.mono hx)
  obtain ⟨rp, hrp⟩ : ∃ rp, rp = Lib.replaceAll text [34] [34, 34] := ⟨_, rfl⟩
  rw [← hrp] at kr
  have e : bod 2 num text (args.map wr) = 34 :: (Lib.replaceAll text [34] [34, 34] ++ [34]) := rfl
  have e' : par false (bod 2 num text (args.map wr)) = (34 :: (rp ++ [34])) := by rw [e]; first | rfl | (rw [hrp]; rfl)
  rw [e'] at hl ⊢
  refine Fn_ofD _ _ Tryz.func47 rfl Tryz.ntmps47 rfl fun c => ?_
  repeat' (first | (refine O_ef rfl (Ef_boxa WideF.wide (cs := [.int .i64 2, .int .i64 num, sv text, .slice _ _ _]) rfl rfl ?_); intro b9; refine O_freezeBox (by intro u hu; simp at hu; rcases hu with rfl | rfl | rfl | rfl <;> rfl) ?_; intro H1 hle1 hc) | (show opsA _ _ _ _ (⟨some 11, .call _, _, _, _, _⟩ :: _) _ _; refine O_ef rfl (Ef_call (I := []) WideF.wide (styles_fn (op := 2) (by omega)) ⟨rfl, trivial⟩ rfl ?_); rintro v2 H2 I2 hle2 ⟨rfl, rfl⟩) | (show wpA _ _ _ (.region 2 _ _) _ _ _ _; refine A_freezeBox (cs := rSt (stl 2)) (by intro u hu; simp at hu; rcases hu with rfl | rfl | rfl | rfl <;> rfl) ?_; intro H3 hle3 hs6; have h13 := hle2.trans hle3; refine A_region ?_) | (refine O_ev WideF.wide rfl (Ev_loadH1 rfl (hs6 1 _ rfl)) rfl rfl ?_) | (refine O_ev WideF.wide rfl (Ev_loadH1 rfl (h13 _ _ _ (hc 0 _ rfl))) rfl rfl ?_) | (refine O_ev WideF.wide rfl (Ev_loadH1 rfl (h13 _ _ _ (hc 2 _ rfl))) rfl rfl ?_) | (refine O_ef rfl (Ef_callp WideF.wide (kr _ (hle1.trans h13)) ⟨rfl, rfl, rfl, trivial⟩ rfl ?_)) | (refine O_ev WideF.wide rfl (Ev_scat (s := [34]) (s2 := rp) rfl rfl (by simp only [List.length_append, List.length_cons, List.length_nil] at *; omega)) rfl rfl ?_) | (refine O_ev WideF.wide rfl (Ev_scat (s := [34] ++ rp) (s2 := [34]) rfl rfl (by simp only [List.length_append, List.length_cons, List.length_nil] at *; omega)) rfl rfl ?_) | (show opsA _ _ _ _ (⟨some 66, .call _, _, _, _, _⟩ :: _) _ _; refine O_ef rfl (Ef_call0 WideF.wide (WriteString_fn _ pb _ ([34] ++ rp ++ [34]) _ hB0 (by simp only [List.length_append, List.length_cons, List.length_nil] at *; omega)) ⟨rfl, rfl, trivial⟩ rfl ?_); rintro v66 G66 J66 gl66 ⟨rfl, hBq⟩) | refine O_nil ?_ | refine A_seq ?_ | refine A_region ?_ | refine A_skip ?_ | refine A_block ?_ | (show opsA _ _ _ _ _ _ _; first | refine O_ev WideF.wide rfl (Ev_pure rfl) rfl rfl ?_ | (show opsA _ _ _ _ (⟨_, .load _ _, _, _, _, _⟩ :: _) _ _; refine O_ev WideF.wide rfl (Ev_loadH1 rfl (hc 0 _ rfl)) rfl rfl ?_) | (show opsA _ _ _ _ (⟨_, .fieldAddr _ _ _, _, _, _, _⟩ :: _) _ _; refine O_ev WideF.wide rfl (Ev_fieldAddr rfl rfl rfl) rfl rfl ?_) | (show opsA _ _ _ _ (⟨_, .alloc _, _, _, _, _⟩ :: _) _ _; (refine O_ef rfl (Ef_alloc WideF.wide rfl ?_); intro b)) | (show opsA _ _ _ _ (⟨_, .store _ _ _, _, _, _, _⟩ :: _) _ _; refine O_ef rfl (Ef_storew WideF.wide rfl rfl rfl rfl rfl ?_))) | (show wpA _ _ _ (.cond _ _ _) _ _ _ _; (refine A_if rfl (fun h => ?_) (fun h => ?_) <;> try (exfalso; omega))))
  all_goals first
    | (exfalso; omega)
    | (exfalso; contradiction)
    | (exfalso; exact absurd trivial (by assumption))
    | (exfalso; exact absurd rfl (by assumption))
    | exact EndD_nil rfl (End_m (Ret0 rfl) (by simpa only [List.append_assoc, List.cons_append, List.nil_append] using hBq))
    | trace_state
set_option maxRecDepth 100000 in
set_option maxHeartbeats 16000000 in
theorem write_2p {H : Hp} {num lv : Int} {text : List UInt8} {a : Option Addr} {n cp pb : Nat} {args : List Nd} {l : List UInt8} {I : Own} (hs : NodesS H a n cp args) (hB0 : BldIs pb l I) (ht : text.length ≤ 1024) (hV : VarsH H) (hlv : (stl 2).2.1 < lv) (hl : l.length + (par true (bod 2 num text (args.map wr))).length ≤ 35184372088832) :
    Fn Tryz.prog 47 [.pointer (some ⟨pb, 0, none⟩), .agg [.int .i64 2, .int .i64 num, sv text, .slice a n cp].toArray, .int .i64 lv] H I fun _ _ I' => BldIs pb (l ++ par true (bod 2 num text (args.map wr))) I' := by
  have kr := fun Hx (hx : HLe H Hx) => ReplaceAll_fn (H := Hx) (l := text) (old := [34]) (new := [34, 34]) (by omega) (by simp) (by simp) (hV.mono hx)
  obtain ⟨rp, hrp⟩ : ∃ rp, rp = Lib.replaceAll text [34] [34, 34] := ⟨_, rfl⟩
  rw [← hrp] at kr
  have e : bod 2 num text (args.map wr) = 34 :: (Lib.replaceAll text [34] [34, 34] ++ [34]) := rfl
  have e' : par true (bod 2 num text (args.map wr)) = 40 :: ((34 :: (rp ++ [34])) ++ [41]) := by rw [e]; first | rfl | (rw [hrp]; rfl)
  rw [e'] at hl ⊢
  refine Fn_ofD _ _ Tryz.func47 rfl Tryz.ntmps47 rfl fun c => ?_
  repeat' (first | (refine O_ef rfl (Ef_boxa WideF.wide (cs := [.int .i64 2, .int .i64 num, sv text, .slice _ _ _]) rfl rfl ?_); intro b9; refine O_freezeBox (by intro u hu; simp at hu; rcases hu with rfl | rfl | rfl | rfl <;> rfl) ?_; intro H1 hle1 hc) | (show opsA _ _ _ _ (⟨some 11, .call _, _, _, _, _⟩ :: _) _ _; refine O_ef rfl (Ef_call (I := []) WideF.wide (styles_fn (op := 2) (by omega)) ⟨rfl, trivial⟩ rfl ?_); rintro v2 H2 I2 hle2 ⟨rfl, rfl⟩) | (show wpA _ _ _ (.region 2 _ _) _ _ _ _; refine A_freezeBox (cs := rSt (stl 2)) (by intro u hu; simp at hu; rcases hu with rfl | rfl | rfl | rfl <;> rfl) ?_; intro H3 hle3 hs6; have h13 := hle2.trans hle3; refine A_region ?_) | (refine O_ev WideF.wide rfl (Ev_loadH1 rfl (hs6 1 _ rfl)) rfl rfl ?_) | (refine O_ev WideF.wide rfl (Ev_loadH1 rfl (h13 _ _ _ (hc 0 _ rfl))) rfl rfl ?_) | (refine O_ev WideF.wide rfl (Ev_loadH1 rfl (h13 _ _ _ (hc 2 _ rfl))) rfl rfl ?_) | (show opsA _ _ _ _ (⟨some 17, .call _, _, _, _, _⟩ :: _) _ _; refine O_ef rfl (Ef_call0 WideF.wide (WriteByte_fn (u := 40) hB0 (by simp only [List.length_append, List.length_cons, List.length_nil] at *; omega)) ⟨rfl, rfl, trivial⟩ rfl ?_); rintro v17 G17 J17 gl17 ⟨rfl, hBp⟩) | (refine O_ef rfl (Ef_deferF (args := [.pointer (some ⟨pb, 0, none⟩), .int .u8 (((41 : UInt8).toNat : Nat) : Int)]) WideF.wide rfl ⟨rfl, rfl, trivial⟩ ?_)) | (refine O_ef rfl (Ef_callp WideF.wide (kr _ (hle1.trans h13)) ⟨rfl, rfl, rfl, trivial⟩ rfl ?_)) | (refine O_ev WideF.wide rfl (Ev_scat (s := [34]) (s2 := rp) rfl rfl (by simp only [List.length_append, List.length_cons, List.length_nil] at *; omega)) rfl rfl ?_) | (refine O_ev WideF.wide rfl (Ev_scat (s := [34] ++ rp) (s2 := [34]) rfl rfl (by simp only [List.length_append, List.length_cons, List.length_nil] at *; omega)) rfl rfl ?_) | (show opsA _ _ _ _ (⟨some 66, .call _, _, _, _, _⟩ :: _) _ _; refine O_ef rfl (Ef_call0 WideF.wide (WriteString_fn _ pb _ ([34] ++ rp ++ [34]) _ hBp (by simp only [List.length_append, List.length_cons, List.length_nil] at *; omega)) ⟨rfl, rfl, trivial⟩ rfl ?_); rintro v66 G66 J66 gl66 ⟨rfl, hBq⟩) | refine O_nil ?_ | refine A_seq ?_ | refine A_region ?_ | refine A_block ?_ | (show opsA _ _ _ _ _ _ _; first | refine O_ev WideF.wide rfl (Ev_pure rfl) rfl rfl ?_ | (show opsA _ _ _ _ (⟨_, .load _ _, _, _, _, _⟩ :: _) _ _; refine O_ev WideF.wide rfl (Ev_loadH1 rfl (hc 0 _ rfl)) rfl rfl ?_) | (show opsA _ _ _ _ (⟨_, .fieldAddr _ _ _, _, _, _, _⟩ :: _) _ _; refine O_ev WideF.wide rfl (Ev_fieldAddr rfl rfl rfl) rfl rfl ?_) | (show opsA _ _ _ _ (⟨_, .alloc _, _, _, _, _⟩ :: _) _ _; (refine O_ef rfl (Ef_alloc WideF.wide rfl ?_); intro b)) | (show opsA _ _ _ _ (⟨_, .store _ _ _, _, _, _, _⟩ :: _) _ _; refine O_ef rfl (Ef_storew WideF.wide rfl rfl rfl rfl rfl ?_))) | (show wpA _ _ _ (.cond _ _ _) _ _ _ _; (refine A_if rfl (fun h => ?_) (fun h => ?_) <;> try (exfalso; omega))))
  all_goals first
    | (exfalso; omega)
    | (exfalso; contradiction)
    | (exfalso; exact absurd trivial (by assumption))
    | (exfalso; exact absurd rfl (by assumption))
    | (refine EndD_one0 (cap := []) (WriteByte_d (u := 41) hBq (by simp only [List.length_append, List.length_cons, List.length_nil] at *; omega)) ?_; rintro H' I' hl' ⟨rfl, hB'⟩; exact ⟨_, Ret0 rfl, rfl, Shift.pure ⟨rfl, (by simpa only [List.append_assoc, List.cons_append, List.nil_append] using hB')⟩⟩)
    | trace_state
set_option maxRecDepth 100000 in
set_option maxHeartbeats 16000000 in
theorem write_4q {H : Hp} {num lv : Int} {text : List UInt8} {a : Option Addr} {n cp pb : Nat} {args : List Nd} {l : List UInt8} {I : Own} (hs : NodesS H a n cp args) (hB0 : BldIs pb l I) (hlv : ¬ (stl 4).2.1 < lv) (hl : l.length + (par false (bod 4 num text (args.map wr))).length ≤ 35184372088832) :
    Fn Tryz.prog 47 [.pointer (some ⟨pb, 0, none⟩), .agg [.int .i64 4, .int .i64 num, sv text, .slice a n cp].toArray, .int .i64 lv] H I fun _ _ I' => BldIs pb (l ++ par false (bod 4 num text (args.map wr))) I' := by

  have e : bod 4 num text (args.map wr) = text := rfl
  have e' : par false (bod 4 num text (args.map wr)) = text := by rw [e]; first | rfl | (rw [hrp]; rfl)
  rw [e'] at hl ⊢
  refine Fn_ofD _ _ Tryz.func47 rfl Tryz.ntmps47 rfl fun c => ?_
  repeat' (first | (refine O_ef rfl (Ef_boxa WideF.wide (cs := [.int .i64 4, .int .i64 num, sv text, .slice _ _ _]) rfl rfl ?_); intro b9; refine O_freezeBox (by intro u hu; simp at hu; rcases hu with rfl | rfl | rfl | rfl <;> rfl) ?_; intro H1 hle1 hc) | (show opsA _ _ _ _ (⟨some 11, .call _, _, _, _, _⟩ :: _) _ _; refine O_ef rfl (Ef_call (I := []) WideF.wide (styles_fn (op := 4) (by omega)) ⟨rfl, trivial⟩ rfl ?_); rintro v2 H2 I2 hle2 ⟨rfl, rfl⟩) | (show wpA _ _ _ (.region 2 _ _) _ _ _ _; refine A_freezeBox (cs := rSt (stl 4)) (by intro u hu; simp at hu; rcases hu with rfl | rfl | rfl | rfl <;> rfl) ?_; intro H3 hle3 hs6; have h13 := hle2.trans hle3; refine A_region ?_) | (refine O_ev WideF.wide rfl (Ev_loadH1 rfl (hs6 1 _ rfl)) rfl rfl ?_) | (refine O_ev WideF.wide rfl (Ev_loadH1 rfl (h13 _ _ _ (hc 0 _ rfl))) rfl rfl ?_) | (refine O_ev WideF.wide rfl (Ev_loadH1 rfl (h13 _ _ _ (hc 2 _ rfl))) rfl rfl ?_) | (show opsA _ _ _ _ (⟨some 72, .call _, _, _, _, _⟩ :: _) _ _; refine O_ef rfl (Ef_call0 WideF.wide (WriteString_fn _ pb _ (text) _ hB0 (by simp only [List.length_append, List.length_cons, List.length_nil] at *; omega)) ⟨rfl, rfl, trivial⟩ rfl ?_); rintro v72 G72 J72 gl72 ⟨rfl, hBq⟩) | refine O_nil ?_ | refine A_seq ?_ | refine A_region ?_ | refine A_skip ?_ | refine A_block ?_ | (show opsA _ _ _ _ _ _ _; first | refine O_ev WideF.wide rfl (Ev_pure rfl) rfl rfl ?_ | (show opsA _ _ _ _ (⟨_, .load _ _, _, _, _, _⟩ :: _) _ _; refine O_ev WideF.wide rfl (Ev_loadH1 rfl (hc 0 _ rfl)) rfl rfl ?_) | (show opsA _ _ _ _ (⟨_, .fieldAddr _ _ _, _, _, _, _⟩ :: _) _ _; refine O_ev WideF.wide rfl (Ev_fieldAddr rfl rfl rfl) rfl rfl ?_) | (show opsA _ _ _ _ (⟨_, .alloc _, _, _, _, _⟩ :: _) _ _; (refine O_ef rfl (Ef_alloc WideF.wide rfl ?_); intro b)) | (show opsA _ _ _ _ (⟨_, .store _ _ _, _, _, _, _⟩ :: _) _ _; refine O_ef rfl (Ef_storew WideF.wide rfl rfl rfl rfl rfl ?_))) | (show wpA _ _ _ (.cond _ _ _) _ _ _ _; (refine A_if rfl (fun h => ?_) (fun h => ?_) <;> try (exfalso; omega))))
  all_goals first
    | (exfalso; omega)
    | (exfalso; contradiction)
    | (exfalso; exact absurd trivial (by assumption))
    | (exfalso; exact absurd rfl (by assumption))
    | exact EndD_nil rfl (End_m (Ret0 rfl) (by simpa only [List.append_assoc, List.cons_append, List.nil_append] using hBq))
    | trace_state
set_option maxRecDepth 100000 in
set_option maxHeartbeats 16000000 in
theorem write_4p {H : Hp} {num lv : Int} {text : List UInt8} {a : Option Addr} {n cp pb : Nat} {args : List Nd} {l : List UInt8} {I : Own} (hs : NodesS H a n cp args) (hB0 : BldIs pb l I) (hlv : (stl 4).2.1 < lv) (hl : l.length + (par true (bod 4 num text (args.map wr))).length ≤ 35184372088832) :
    Fn Tryz.prog 47 [.pointer (some ⟨pb, 0, none⟩), .agg [.int .i64 4, .int .i64 num, sv text, .slice a n cp].toArray, .int .i64 lv] H I fun _ _ I' => BldIs pb (l ++ par true (bod 4 num text (args.map wr))) I' := by

  have e : bod 4 num text (args.map wr) = text := rfl
  have e' : par true (bod 4 num text (args.map wr)) = 40 :: (text ++ [41]) := by rw [e]; first | rfl | (rw [hrp]; rfl)
  rw [e'] at hl ⊢
  refine Fn_ofD _ _ Tryz.func47 rfl Tryz.ntmps47 rfl fun c => ?_
  repeat' (first | (refine O_ef rfl (Ef_boxa WideF.wide (cs := [.int .i64 4, .int .i64 num, sv text, .slice _ _ _]) rfl rfl ?_); intro b9; refine O_freezeBox (by intro u hu; simp at hu; rcases hu with rfl | rfl | rfl | rfl <;> rfl) ?_; intro H1 hle1 hc) | (show opsA _ _ _ _ (⟨some 11, .call _, _, _, _, _⟩ :: _) _ _; refine O_ef rfl (Ef_call (I := []) WideF.wide (styles_fn (op := 4) (by omega)) ⟨rfl, trivial⟩ rfl ?_); rintro v2 H2 I2 hle2 ⟨rfl, rfl⟩) | (show wpA _ _ _ (.region 2 _ _) _ _ _ _; refine A_freezeBox (cs := rSt (stl 4)) (by intro u hu; simp at hu; rcases hu with rfl | rfl | rfl | rfl <;> rfl) ?_; intro H3 hle3 hs6; have h13 := hle2.trans hle3; refine A_region ?_) | (refine O_ev WideF.wide rfl (Ev_loadH1 rfl (hs6 1 _ rfl)) rfl rfl ?_) | (refine O_ev WideF.wide rfl (Ev_loadH1 rfl (h13 _ _ _ (hc 0 _ rfl))) rfl rfl ?_) | (refine O_ev WideF.wide rfl (Ev_loadH1 rfl (h13 _ _ _ (hc 2 _ rfl))) rfl rfl ?_) | (show opsA _ _ _ _ (⟨some 17, .call _, _, _, _, _⟩ :: _) _ _; refine O_ef rfl (Ef_call0 WideF.wide (WriteByte_fn (u := 40) hB0 (by simp only [List.length_append, List.length_cons, List.length_nil] at *; omega)) ⟨rfl, rfl, trivial⟩ rfl ?_); rintro v17 G17 J17 gl17 ⟨rfl, hBp⟩) | (refine O_ef rfl (Ef_deferF (args := [.pointer (some ⟨pb, 0, none⟩), .int .u8 (((41 : UInt8).toNat : Nat) : Int)]) WideF.wide rfl ⟨rfl, rfl, trivial⟩ ?_)) | (show opsA _ _ _ _ (⟨some 72, .call _, _, _, _, _⟩ :: _) _ _; refine O_ef rfl (Ef_call0 WideF.wide (WriteString_fn _ pb _ (text) _ hBp (by simp only [List.length_append, List.length_cons, List.length_nil] at *; omega)) ⟨rfl, rfl, trivial⟩ rfl ?_); rintro v72 G72 J72 gl72 ⟨rfl, hBq⟩) | refine O_nil ?_ | refine A_seq ?_ | refine A_region ?_ | refine A_block ?_ | (show opsA _ _ _ _ _ _ _; first | refine O_ev WideF.wide rfl (Ev_pure rfl) rfl rfl ?_ | (show opsA _ _ _ _ (⟨_, .load _ _, _, _, _, _⟩ :: _) _ _; refine O_ev WideF.wide rfl (Ev_loadH1 rfl (hc 0 _ rfl)) rfl rfl ?_) | (show opsA _ _ _ _ (⟨_, .fieldAddr _ _ _, _, _, _, _⟩ :: _) _ _; refine O_ev WideF.wide rfl (Ev_fieldAddr rfl rfl rfl) rfl rfl ?_) | (show opsA _ _ _ _ (⟨_, .alloc _, _, _, _, _⟩ :: _) _ _; (refine O_ef rfl (Ef_alloc WideF.wide rfl ?_); intro b)) | (show opsA _ _ _ _ (⟨_, .store _ _ _, _, _, _, _⟩ :: _) _ _; refine O_ef rfl (Ef_storew WideF.wide rfl rfl rfl rfl rfl ?_))) | (show wpA _ _ _ (.cond _ _ _) _ _ _ _; (refine A_if rfl (fun h => ?_) (fun h => ?_) <;> try (exfalso; omega))))
  all_goals first
    | (exfalso; omega)
    | (exfalso; contradiction)
    | (exfalso; exact absurd trivial (by assumption))
    | (exfalso; exact absurd rfl (by assumption))
    | (refine EndD_one0 (cap := []) (WriteByte_d (u := 41) hBq (by simp only [List.length_append, List.length_cons, List.length_nil] at *; omega)) ?_; rintro H' I' hl' ⟨rfl, hB'⟩; exact ⟨_, Ret0 rfl, rfl, Shift.pure ⟨rfl, (by simpa only [List.append_assoc, List.cons_append, List.nil_append] using hB')⟩⟩)
    | trace_state
end Go.Proofs.YtnoadopmeoohmaaGreatDoor
