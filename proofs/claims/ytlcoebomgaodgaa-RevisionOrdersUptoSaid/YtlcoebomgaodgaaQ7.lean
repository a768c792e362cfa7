/-
  slices.Sort and slices.Compact of numbers, by the shelf's contracts (printed by genQ7.py); Select.
-/
import Derived.Test.YtlcoebomgaodgaaQ6
import Derived.Shelf.Sort.Plain
import Derived.Shelf.Slices.CompactI
import Derived.Shelf.Slices.In.SortNone
import Derived.Sort.OwnSortedInts
namespace Go.Proofs.Ytlcoebomgaodgaa
open Go
set_option linter.unusedVariables false
set_option linter.unusedSimpArgs false
theorem ext_inc : ∀ {l l' : List Int}, Inc l → Inc l' → (∀ x, x ∈ l ↔ x ∈ l') → l = l'
  | [], [], _, _, _ => rfl
  | [], y :: r, _, _, h => by have := (h y).2 (by simp); cases this
  | y :: r, [], _, _, h => by have := (h y).1 (by simp); cases this
  | y :: r, y' :: r', hs, hs', h => by
    have h1 := (List.pairwise_cons.1 hs).1
    have h2 := (List.pairwise_cons.1 hs').1
    have e : y = y' := by
      rcases List.mem_cons.1 ((h y).1 (by simp)) with e | hy
      · exact e
      · rcases List.mem_cons.1 ((h y').2 (by simp)) with e | hy'
        · exact e.symm
        · have := h1 y' hy'; have := h2 y hy; omega
    subst e
    have hr : r = r' := ext_inc (List.pairwise_cons.1 hs).2 (List.pairwise_cons.1 hs').2 fun x => by
      constructor
      · intro hx
        rcases List.mem_cons.1 ((h x).1 (List.mem_cons_of_mem _ hx)) with e | hx'
        · have := h1 x hx; omega
        · exact hx'
      · intro hx
        rcases List.mem_cons.1 ((h x).2 (List.mem_cons_of_mem _ hx)) with e | hx'
        · have := h2 x hx; omega
        · exact hx'
    rw [hr]
def srt (l : List Int) : List Int := l.mergeSort fun x y => decide (x ≤ y)
theorem srt_mem {l : List Int} {x : Int} : x ∈ srt l ↔ x ∈ l := (List.mergeSort_perm l _).mem_iff
section
open Go.Shelf
def lays189_ren : Go.Shelf.Ren := ⟨fun | 189 => 44 | 125 => 65 | 257 => 64 | 128 => 88 | 129 => 89 | 294 => 79 | 295 => 80 | 296 => 81 | 297 => 82 | 298 => 83 | 299 => 84 | 216 => 85 | 300 => 86 | 301 => 87 | 328 => 97 | 329 => 98 | 330 => 99 | 331 => 100 | 332 => 101 | 215 => 54 | 343 => 113 | n => n, fun | 28 => 41 | 3 => 3 | 46 => 100 | 0 => 0 | 51 => 120 | 53 => 122 | 4 => 4 | 183 => 113 | 182 => 112 | 131 => 71 | 5 => 5 | 9 => 9 | 218 => 131 | 222 => 135 | 228 => 145 | 229 => 146 | n => n, fun | n => n⟩
theorem lays189 : Go.Proofs.Lays.n189 Try.prog lays189_ren := {
  mixed := by kernel_rfl
  f125 := Try.func65.trans (congrArg some (by kernel_rfl))
  f128 := Try.func88.trans (congrArg some (by kernel_rfl))
  f129 := Try.func89.trans (congrArg some (by kernel_rfl))
  f189 := Try.func44.trans (congrArg some (by kernel_rfl))
  f215 := Try.func54.trans (congrArg some (by kernel_rfl))
  f216 := Try.func85.trans (congrArg some (by kernel_rfl))
  f257 := Try.func64.trans (congrArg some (by kernel_rfl))
  f294 := Try.func79.trans (congrArg some (by kernel_rfl))
  f295 := Try.func80.trans (congrArg some (by kernel_rfl))
  f296 := Try.func81.trans (congrArg some (by kernel_rfl))
  f297 := Try.func82.trans (congrArg some (by kernel_rfl))
  f298 := Try.func83.trans (congrArg some (by kernel_rfl))
  f299 := Try.func84.trans (congrArg some (by kernel_rfl))
  f300 := Try.func86.trans (congrArg some (by kernel_rfl))
  f301 := Try.func87.trans (congrArg some (by kernel_rfl))
  f328 := Try.func97.trans (congrArg some (by kernel_rfl))
  f329 := Try.func98.trans (congrArg some (by kernel_rfl))
  f330 := Try.func99.trans (congrArg some (by kernel_rfl))
  f331 := Try.func100.trans (congrArg some (by kernel_rfl))
  f332 := Try.func101.trans (congrArg some (by kernel_rfl))
  f343 := Try.func113.trans (congrArg some (by kernel_rfl))
  t0 := Try.underlying0
  a0 := Try.isAgg0
  z0 := Try.sizeOf0
  v0 := Try.zeroValue0
  t3 := Try.underlying3
  a3 := Try.isAgg3
  z3 := Try.sizeOf3
  v3 := Try.zeroValue3
  t4 := Try.underlying4
  a4 := Try.isAgg4
  z4 := Try.sizeOf4
  v4 := Try.zeroValue4
  t5 := Try.underlying5
  a5 := Try.isAgg5
  z5 := Try.sizeOf5
  v5 := Try.zeroValue5
  t9 := Try.underlying9
  a9 := Try.isAgg9
  z9 := Try.sizeOf9
  v9 := Try.zeroValue9
  t28 := Try.underlying41
  a28 := Try.isAgg41
  z28 := Try.sizeOf41
  v28 := Try.zeroValue41
  t46 := Try.underlying100
  a46 := Try.isAgg100
  z46 := Try.sizeOf100
  v46 := Try.zeroValue100
  t51 := Try.underlying120
  a51 := Try.isAgg120
  z51 := Try.sizeOf120
  v51 := Try.zeroValue120
  t53 := Try.underlying122
  a53 := Try.isAgg122
  z53 := Try.sizeOf122
  v53 := Try.zeroValue122
  t131 := Try.underlying71
  a131 := Try.isAgg71
  z131 := Try.sizeOf71
  v131 := Try.zeroValue71
  t182 := Try.underlying112
  a182 := Try.isAgg112
  z182 := Try.sizeOf112
  v182 := Try.zeroValue112
  t183 := Try.underlying113
  a183 := Try.isAgg113
  z183 := Try.sizeOf113
  v183 := Try.zeroValue113
  t218 := Try.underlying131
  a218 := Try.isAgg131
  z218 := Try.sizeOf131
  v218 := Try.zeroValue131
  t222 := Try.underlying135
  a222 := Try.isAgg135
  z222 := Try.sizeOf135
  v222 := Try.zeroValue135
  t228 := Try.underlying145
  a228 := Try.isAgg145
  z228 := Try.sizeOf145
  v228 := Try.zeroValue145
  t229 := Try.underlying146
  a229 := Try.isAgg146
  z229 := Try.sizeOf146
  v229 := Try.zeroValue146 }
open Go.Sort Go.RowKit in
theorem slices_Sort_int (blk off cap : Nat) (zs : List Int) (w : World) (hH : Go.Sort.Holds (Value.int .i64) w blk off zs.toArray) (hblk : blk < w.heap.size) (hsz : zs.length < 4611686018427387904) :
    Calls Try.prog 44 #[.slice (some ⟨blk, off, none⟩) zs.length cap] w fun e w' =>
      e = .returned (.tuple #[]) ∧ ∃ n os, w' = Go.Sort.grow (Go.Sort.putRow (Value.int .i64) (Go.Sort.ahead w n) blk off (zs.mergeSort fun x y => decide (x ≤ y)).toArray) os := Any.slices_Sort_int lays189 blk off cap zs w hH hblk hsz
def lays190_ren : Go.Shelf.Ren := ⟨fun | 190 => 71 | 125 => 65 | 258 => 93 | 128 => 88 | 129 => 89 | 302 => 104 | 303 => 105 | 304 => 106 | 305 => 107 | 306 => 108 | 307 => 109 | 308 => 110 | 309 => 111 | 310 => 112 | 333 => 115 | 329 => 98 | 330 => 99 | 334 => 116 | 335 => 117 | 336 => 118 | 344 => 120 | n => n, fun | 31 => 40 | 9 => 9 | 3 => 3 | 46 => 100 | 0 => 0 | 51 => 120 | 53 => 122 | 4 => 4 | 183 => 113 | 182 => 112 | 131 => 71 | 5 => 5 | 218 => 131 | 222 => 135 | 228 => 145 | 229 => 146 | n => n, fun | n => n⟩
theorem lays190 : Go.Proofs.Lays.n190 Try.prog lays190_ren := {
  mixed := by kernel_rfl
  f125 := Try.func65.trans (congrArg some (by kernel_rfl))
  f128 := Try.func88.trans (congrArg some (by kernel_rfl))
  f129 := Try.func89.trans (congrArg some (by kernel_rfl))
  f190 := Try.func71.trans (congrArg some (by kernel_rfl))
  f258 := Try.func93.trans (congrArg some (by kernel_rfl))
  f302 := Try.func104.trans (congrArg some (by kernel_rfl))
  f303 := Try.func105.trans (congrArg some (by kernel_rfl))
  f304 := Try.func106.trans (congrArg some (by kernel_rfl))
  f305 := Try.func107.trans (congrArg some (by kernel_rfl))
  f306 := Try.func108.trans (congrArg some (by kernel_rfl))
  f307 := Try.func109.trans (congrArg some (by kernel_rfl))
  f308 := Try.func110.trans (congrArg some (by kernel_rfl))
  f309 := Try.func111.trans (congrArg some (by kernel_rfl))
  f310 := Try.func112.trans (congrArg some (by kernel_rfl))
  f329 := Try.func98.trans (congrArg some (by kernel_rfl))
  f330 := Try.func99.trans (congrArg some (by kernel_rfl))
  f333 := Try.func115.trans (congrArg some (by kernel_rfl))
  f334 := Try.func116.trans (congrArg some (by kernel_rfl))
  f335 := Try.func117.trans (congrArg some (by kernel_rfl))
  f336 := Try.func118.trans (congrArg some (by kernel_rfl))
  f344 := Try.func120.trans (congrArg some (by kernel_rfl))
  t0 := Try.underlying0
  a0 := Try.isAgg0
  z0 := Try.sizeOf0
  v0 := Try.zeroValue0
  t3 := Try.underlying3
  a3 := Try.isAgg3
  z3 := Try.sizeOf3
  v3 := Try.zeroValue3
  t4 := Try.underlying4
  a4 := Try.isAgg4
  z4 := Try.sizeOf4
  v4 := Try.zeroValue4
  t5 := Try.underlying5
  a5 := Try.isAgg5
  z5 := Try.sizeOf5
  v5 := Try.zeroValue5
  t9 := Try.underlying9
  a9 := Try.isAgg9
  z9 := Try.sizeOf9
  v9 := Try.zeroValue9
  t31 := Try.underlying40
  a31 := Try.isAgg40
  z31 := Try.sizeOf40
  v31 := Try.zeroValue40
  t46 := Try.underlying100
  a46 := Try.isAgg100
  z46 := Try.sizeOf100
  v46 := Try.zeroValue100
  t51 := Try.underlying120
  a51 := Try.isAgg120
  z51 := Try.sizeOf120
  v51 := Try.zeroValue120
  t53 := Try.underlying122
  a53 := Try.isAgg122
  z53 := Try.sizeOf122
  v53 := Try.zeroValue122
  t131 := Try.underlying71
  a131 := Try.isAgg71
  z131 := Try.sizeOf71
  v131 := Try.zeroValue71
  t182 := Try.underlying112
  a182 := Try.isAgg112
  z182 := Try.sizeOf112
  v182 := Try.zeroValue112
  t183 := Try.underlying113
  a183 := Try.isAgg113
  z183 := Try.sizeOf113
  v183 := Try.zeroValue113
  t218 := Try.underlying131
  a218 := Try.isAgg131
  z218 := Try.sizeOf131
  v218 := Try.zeroValue131
  t222 := Try.underlying135
  a222 := Try.isAgg135
  z222 := Try.sizeOf135
  v222 := Try.zeroValue135
  t228 := Try.underlying145
  a228 := Try.isAgg145
  z228 := Try.sizeOf145
  v228 := Try.zeroValue145
  t229 := Try.underlying146
  a229 := Try.isAgg146
  z229 := Try.sizeOf146
  v229 := Try.zeroValue146 }
open Go.Sort Go.RowKit in
theorem slices_Sort_string (blk off cap : Nat) (ss : List (List UInt8)) (w : World) (hH : Go.Sort.Holds encStr w blk off ss.toArray) (hblk : blk < w.heap.size) (hsz : ss.length < 4611686018427387904) :
    Calls Try.prog 71 #[.slice (some ⟨blk, off, none⟩) ss.length cap] w fun e w' =>
      e = .returned (.tuple #[]) ∧ ∃ n os, w' = Go.Sort.grow (Go.Sort.putRow encStr (Go.Sort.ahead w n) blk off (ss.mergeSort fun x y => decide (x ≤ y)).toArray) os := Any.slices_Sort_string lays190 blk off cap ss w hH hblk hsz
def laysNm220_ren : Go.Shelf.Ren := ⟨fun | 20 => 45 | n => n, fun | 22 => 41 | 3 => 3 | 4 => 4 | 0 => 0 | n => n, fun | n => n⟩
theorem laysNm220 : Go.Proofs.Lays2.n20 Try.prog laysNm220_ren := {
  mixed := by kernel_rfl
  f20 := Try.func45.trans (congrArg some (by kernel_rfl))
  t0 := Try.underlying0
  a0 := Try.isAgg0
  z0 := Try.sizeOf0
  v0 := Try.zeroValue0
  t3 := Try.underlying3
  a3 := Try.isAgg3
  z3 := Try.sizeOf3
  v3 := Try.zeroValue3
  t4 := Try.underlying4
  a4 := Try.isAgg4
  z4 := Try.sizeOf4
  v4 := Try.zeroValue4
  t22 := Try.underlying41
  a22 := Try.isAgg41
  z22 := Try.sizeOf41
  v22 := Try.zeroValue41
  i3 := by kernel_rfl }
open Go.RowKit Go.Lib Go.Sort in
theorem slices_Compact_int (blk off cap : Nat) (zs : List Int) (w : World) (hH : Go.Sort.Holds (Value.int .i64) w blk off zs.toArray) (hsz : zs.length ≤ 9223372036854775807) (hcap : zs.length ≤ cap) :
    Calls Try.prog 45 #[.slice (some ⟨blk, off, none⟩) zs.length cap] w fun e w' => e = .returned (.slice (some ⟨blk, off, none⟩) (Go.Lib.compact zs).length cap) ∧ ∃ q, w' = Go.Sort.putRow (Value.int .i64) (Go.Sort.ahead w q) blk off (Go.Lib.compact zs ++ List.replicate (zs.length - (Go.Lib.compact zs).length) 0).toArray := Any.slices_Compact_int laysNm220 blk off cap zs w hH hsz hcap
open Go.RowKit Go.Lib Go.Sort in
theorem slices_Compact_int_empty (a : Option Addr) (cap : Nat) (w : World) :
    Calls Try.prog 45 #[.slice a 0 cap] w fun e w' => e = .returned (.slice a 0 cap) ∧ w' = w := Any.slices_Compact_int_empty laysNm220 a cap w
open Go.RowKit Go.Sort in
theorem slices_Sort_string_none (p : Option Addr) (cap : Nat) (w : World) :
    Calls Try.prog 71 #[.slice p 0 cap] w fun e w' => e = .returned (.tuple #[]) ∧ w' = w := Any.slices_Sort_string_none lays190 p cap w
open Go.RowKit Go.Sort in
theorem slices_Sort_int_none (p : Option Addr) (cap : Nat) (w : World) :
    Calls Try.prog 44 #[.slice p 0 cap] w fun e w' => e = .returned (.tuple #[]) ∧ w' = w := Any.slices_Sort_int_none lays189 p cap w
end
theorem moves_sorted {w : World} {g k : Nat} {os : Array Obj} {d : Array Int} : Moves w (Go.Sort.grow (Go.Sort.putRow (Value.int .i64) (Go.Sort.ahead w k) g 0 d) os) [g] :=
  have h := grownBy_sortedI (w := w) (g := g) (n := k) (os := os) d
  ⟨rfl, rfl, rfl, h.size, fun j hj hn => h.block j hj fun e => hn (by simp at e; simp [e])⟩
theorem sortSome_fn {H : Hp} {b n cp : Nat} {l : List Int} (hm : l.length < 4611686018427387904) : Fn Try.prog 44 [.slice (some ⟨b, 0, none⟩) n cp] H [.row (.slice (some ⟨b, 0, none⟩) n cp) 1 (l.map irow)] fun v H' I' => v = .tuple #[] ∧ H' = H ∧ I' = [.row (.slice (some ⟨b, 0, none⟩) n cp) 1 ((srt l).map irow)] := by
  intro w hw
  have hr : RowOk w (.slice (some ⟨b, 0, none⟩) n cp) 1 (l.map irow) := hw.own _ (List.mem_cons_self)
  rcases hr with ⟨hv, _⟩ | ⟨b', cap, rest, T, hv, hk, hc, hb, hl⟩
  · cases hv
  · cases hv
    simp only [List.length_map] at hc hw ⊢
    have hfl : (l.map irow).flatten = l.map (Value.int .i64) := by
      clear hw hb hl hk hc hm
      induction l with
      | nil => rfl
      | cons x r ih => simp only [List.map_cons, List.flatten_cons, ih]; rfl
    rw [hfl] at hb hl
    have hHs : Go.Sort.Holds (Value.int .i64) w b 0 l.toArray := holds_of_blockI hb (by simp)
    have hlt := hw.lt b (by simp [Own.blocks, Res.blocks])
    refine (slices_Sort_int b 0 cp l w hHs hlt hm).mono ?_
    rintro e w' ⟨rfl, k, os, rfl⟩
    refine ⟨.tuple #[], H, _, rfl, ?_, rfl, rfl, rfl⟩
    have hsl : (srt l).length = l.length := (List.mergeSort_perm l _).length_eq
    refine Holds.frameH (I := [.row (.slice (some ⟨b, 0, none⟩) l.length cp) 1 (l.map irow)]) (I' := [.row (.slice (some ⟨b, 0, none⟩) l.length cp) 1 ((srt l).map irow)]) (R := []) hw (moves_sorted.mono (by simp [Own.blocks, Res.blocks])) (Own.ok_one ?_) (Own.sep_one _) (fun b' hb' => .inr (by simpa [Own.blocks, Res.blocks] using hb'))
    refine .inr ⟨b, cp, rest, T, by rw [List.length_map, hsl], ?_, by rw [List.length_map, hsl]; exact hc, ?_, ?_⟩
    · intro cs hcs
      obtain ⟨x, _, rfl⟩ := List.mem_map.1 hcs
      rfl
    · have hfs : ((srt l).map irow).flatten = (srt l).map (Value.int .i64) := by
        generalize srt l = z
        induction z with
        | nil => rfl
        | cons x r ih => simp only [List.map_cons, List.flatten_cons, ih]; rfl
      rw [hfs, heap_sortedI _ hb]
      refine congrArg (fun z => some (Obj.cells z T (0, 0))) ?_
      apply Array.ext_getElem?
      intro j
      simp only [Go.Sort.putCells, Array.getElem?_mapIdx, List.getElem?_toArray]
      by_cases hj : j < l.length
      · rw [List.getElem?_append_left (by simpa using hj), List.getElem?_append_left (by simpa [hsl] using hj)]
        have h1 : (srt l)[j]? = some (srt l)[j] := List.getElem?_eq_getElem (by omega)
        simp [hj, hsl, h1, srt]
      · rw [List.getElem?_append_right (by simp; omega), List.getElem?_append_right (by simp [hsl]; omega)]
        simp only [List.length_map, hsl]
        cases rest[j - l.length]? with
        | none => rfl
        | some v =>
          have h2 : ¬ (0 ≤ j ∧ j < 0 + (srt l).toArray.size) := by simp [hsl]; omega
          simp only [Option.map_some]
          exact congrArg some (if_neg h2)
    · rw [List.length_append] at hl ⊢
      simp only [List.length_map, List.length_flatten, List.map_map] at hl ⊢
      have hz : ((srt l).map irow).flatten.length = l.length := by
        rw [← hsl]
        generalize srt l = z
        induction z with
        | nil => rfl
        | cons x r ih => simp only [List.map_cons, List.flatten_cons, List.length_append, ih]; simp [irow]; omega
      simp only [List.length_flatten, List.map_map] at hz
      omega
theorem sortInts_fn {H : Hp} {a : Option Addr} {n cp : Nat} {l : List Int} (hm : l.length < 4611686018427387904) : Fn Try.prog 44 [.slice a n cp] H [.row (.slice a n cp) 1 (l.map irow)] fun v H' I' => v = .tuple #[] ∧ H' = H ∧ I' = [.row (.slice a n cp) 1 ((srt l).map irow)] := by
  intro w hw
  have hr : RowOk w (.slice a n cp) 1 (l.map irow) := hw.own _ (List.mem_cons_self)
  rcases hr with ⟨hv, hl⟩ | ⟨b, cap, rest, T, hv, hk, hc, hb, hl⟩
  · cases hv
    obtain rfl : l = [] := by simpa using hl
    refine (slices_Sort_int_none none 0 w).mono ?_
    rintro e w' ⟨rfl, rfl⟩
    have e : srt [] = [] := by simp [srt]
    exact ⟨_, H, _, rfl, hw, rfl, rfl, by rw [e]⟩
  · cases hv
    exact sortSome_fn hm w hw

/-! ### slices.Compact -/
theorem srt_sorted (l : List Int) : (srt l).Pairwise (· ≤ ·) := by
  have h1 : (srt l).Pairwise fun a b => (decide (a ≤ b)) = true := List.pairwise_mergeSort (fun a b c h1 h2 => by simp at *; omega) (fun a b => by simp; omega) l
  exact h1.imp fun h => by simpa using h
theorem compact_spec {z : List Int} (hs : z.Pairwise (· ≤ ·)) : ∀ m, m ≤ z.length → Inc (Go.Lib.compactUpTo z.toArray m) ∧ ∀ x, x ∈ Go.Lib.compactUpTo z.toArray m ↔ ∃ j, j < m ∧ z[j]? = some x
  | 0, _ => ⟨by simp [Go.Lib.compactUpTo], by simp [Go.Lib.compactUpTo]⟩
  | m + 1, hm => by
    obtain ⟨h1, h2⟩ := compact_spec hs m (by omega)
    have hget : ∀ j, j < z.length → z[j]? = some (z.toArray[j]!) := fun j hj => by simp [hj]
    rw [Go.Lib.compactUpTo_succ]
    by_cases hk : Go.Lib.keeps z.toArray m = true
    · rw [if_pos hk]
      refine ⟨?_, fun x => ?_⟩
      · unfold Inc
        rw [List.pairwise_append]
        refine ⟨h1, by simp, fun a ha b hb => ?_⟩
        rw [List.mem_singleton] at hb
        subst hb
        obtain ⟨j, hj, hja⟩ := (h2 a).1 ha
        have hm1 : z.toArray[m]! ≠ z.toArray[m - 1]! := by
          simp only [Go.Lib.keeps, decide_eq_true_eq] at hk
          rcases hk with hk | hk
          · omega
          · exact hk
        have ea := hget j (by omega)
        rw [hja] at ea
        cases ea
        have l1 : z.toArray[m - 1]! ≤ z.toArray[m]! := by
          have := List.pairwise_iff_getElem.1 hs (m - 1) m (by omega) (by omega) (by omega)
          simpa [show m - 1 < z.length by omega, show m < z.length by omega] using this
        have l2 : z.toArray[j]! ≤ z.toArray[m - 1]! := by
          by_cases hjm : j = m - 1
          · rw [hjm]; exact Int.le_refl _
          · have := List.pairwise_iff_getElem.1 hs j (m - 1) (by omega) (by omega) (by omega)
            simpa [show m - 1 < z.length by omega, show j < z.length by omega] using this
        omega
      · rw [List.mem_append, h2, List.mem_singleton]
        constructor
        · rintro (⟨j, hj, e⟩ | rfl)
          · exact ⟨j, by omega, e⟩
          · exact ⟨m, by omega, hget m (by omega)⟩
        · rintro ⟨j, hj, e⟩
          by_cases hjm : j = m
          · subst hjm; rw [hget j (by omega)] at e; cases e; exact .inr rfl
          · exact .inl ⟨j, by omega, e⟩
    · rw [if_neg hk, List.append_nil]
      refine ⟨h1, fun x => ?_⟩
      rw [h2]
      simp only [Go.Lib.keeps, decide_eq_true_eq, not_or, Decidable.not_not] at hk
      constructor
      · rintro ⟨j, hj, e⟩; exact ⟨j, by omega, e⟩
      · rintro ⟨j, hj, e⟩
        by_cases hjm : j = m
        · subst hjm
          refine ⟨j - 1, by omega, ?_⟩
          rw [hget (j - 1) (by omega), ← hk.2, ← hget j (by omega), e]
        · exact ⟨j, by omega, e⟩
/-- numbers in order, each once -/
def cmps (l : List Int) : List Int := Go.Lib.compact (srt l)
theorem cmps_inc (l : List Int) : Inc (cmps l) := (compact_spec (srt_sorted l) _ (Nat.le_refl _)).1
theorem cmps_mem {l : List Int} {x : Int} : x ∈ cmps l ↔ x ∈ l := by
  have h := (compact_spec (srt_sorted l) _ (Nat.le_refl _)).2 x
  unfold cmps Go.Lib.compact
  rw [h, ← srt_mem, List.mem_iff_getElem?]
  constructor
  · rintro ⟨j, _, e⟩; exact ⟨j, e⟩
  · rintro ⟨j, e⟩; exact ⟨j, (List.getElem?_eq_some_iff.1 e).1, e⟩
theorem flat_irow (l : List Int) : (l.map irow).flatten = l.map (Value.int .i64) := by
  induction l with
  | nil => rfl
  | cons x r ih => simp only [List.map_cons, List.flatten_cons, ih]; rfl
theorem compact_le (l : List Int) : (Go.Lib.compact l).length ≤ l.length := by
  unfold Go.Lib.compact Go.Lib.compactUpTo
  rw [List.length_map]
  exact Nat.le_trans (List.length_filter_le _ _) (by simp)
theorem compactInts_fn {H : Hp} {a : Option Addr} {n cp : Nat} {l : List Int} (hm : l.length < 4611686018427387904) : Fn Try.prog 45 [.slice a n cp] H [.row (.slice a n cp) 1 (l.map irow)] fun v H' I' => H' = H ∧ ∃ n', v = .slice a n' cp ∧ I' = [.row (.slice a n' cp) 1 ((Go.Lib.compact l).map irow)] := by
  intro w hw
  have hr : RowOk w (.slice a n cp) 1 (l.map irow) := hw.own _ (List.mem_cons_self)
  rcases hr with ⟨hv, hl⟩ | ⟨b, cap, rest, T, hv, hk, hc, hb, hl⟩
  · cases hv
    obtain rfl : l = [] := by simpa using hl
    refine (slices_Compact_int_empty none 0 w).mono ?_
    rintro e w' ⟨rfl, rfl⟩
    exact ⟨_, H, _, rfl, hw, rfl, 0, rfl, by simp [Go.Lib.compact, Go.Lib.compactUpTo]⟩
  · cases hv
    simp only [List.length_map] at hc hw ⊢
    rw [flat_irow] at hb hl
    have hHs : Go.Sort.Holds (Value.int .i64) w b 0 l.toArray := holds_of_blockI hb (by simp)
    refine (slices_Compact_int b 0 cp l w hHs (by omega) hc).mono ?_
    rintro e w' ⟨rfl, q, rfl⟩
    have hle := compact_le l
    generalize Go.Lib.compact l = m at hle
    refine ⟨_, H, _, rfl, ?_, rfl, m.length, rfl, rfl⟩
    have hgb : ∀ d : Array Int, (Go.Sort.putRow (Value.int .i64) (Go.Sort.ahead w q) b 0 d).heap[b]? = some (.cells (Go.Sort.putCells (Value.int .i64) 0 d (l.map (Value.int .i64) ++ rest).toArray) T (0, 0)) := fun d => by
      have hg : b < w.heap.size := (Array.getElem?_eq_some_iff.1 hb).1
      simp [Go.Sort.putRow, Go.Sort.mapBlock, Go.Sort.ahead, Array.getElem?_modify, hb, Go.Sort.onCells]
    have hmv : ∀ d : Array Int, Moves w (Go.Sort.putRow (Value.int .i64) (Go.Sort.ahead w q) b 0 d) [b] := fun d => by
      refine ⟨rfl, rfl, rfl, by simp [Go.Sort.putRow, Go.Sort.mapBlock, Go.Sort.ahead], fun j hj hn => ?_⟩
      have : b ≠ j := fun e => hn (by rw [e]; simp)
      simp [Go.Sort.putRow, Go.Sort.mapBlock, Go.Sort.ahead, Array.getElem?_modify, this]
    refine Holds.frameH (I := [.row (.slice (some ⟨b, 0, none⟩) l.length cp) 1 (l.map irow)]) (I' := [.row (.slice (some ⟨b, 0, none⟩) m.length cp) 1 (m.map irow)]) (R := []) hw ((hmv _).mono (by simp [Own.blocks, Res.blocks])) (Own.ok_one ?_) (Own.sep_one _) (by simp [Own.blocks, Res.blocks])
    refine .inr ⟨b, cp, (List.replicate (l.length - m.length) 0).map (Value.int .i64) ++ rest, T, by rw [List.length_map], ?_, by rw [List.length_map]; omega, ?_, ?_⟩
    · intro cs hcs
      obtain ⟨x, _, rfl⟩ := List.mem_map.1 hcs
      rfl
    · rw [hgb, flat_irow]
      refine congrArg (fun z => some (Obj.cells z T (0, 0))) ?_
      apply Array.ext_getElem?
      intro j
      have hds : (m ++ List.replicate (l.length - m.length) 0).length = l.length := by simp; omega
      rw [← List.append_assoc, ← List.map_append]
      simp only [Go.Sort.putCells, Array.getElem?_mapIdx, List.getElem?_toArray]
      generalize m ++ List.replicate (l.length - m.length) 0 = d at hds
      by_cases hj : j < l.length
      · rw [List.getElem?_append_left (by simpa using hj), List.getElem?_append_left (by simpa [hds] using hj)]
        have h1 : d[j]? = some d[j] := List.getElem?_eq_getElem (by omega)
        simp [hj, hds, h1]
      · rw [List.getElem?_append_right (by simp; omega), List.getElem?_append_right (by simp [hds]; omega)]
        simp only [List.length_map, hds]
        cases rest[j - l.length]? with
        | none => rfl
        | some v =>
          have h2 : ¬ (0 ≤ j ∧ j < 0 + d.toArray.size) := by simp [hds]; omega
          simp only [Option.map_some]
          exact congrArg some (if_neg h2)
    · rw [flat_irow]
      rw [List.length_append] at hl ⊢
      simp only [List.length_map, List.length_append, List.length_replicate] at hl ⊢
      omega
end Go.Proofs.Ytlcoebomgaodgaa
