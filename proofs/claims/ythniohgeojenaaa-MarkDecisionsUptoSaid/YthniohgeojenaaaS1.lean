/-
  Rising lists; sorting; what has been seen.
  slices.Sort at numbers: the shelf's contract laid at this program (written by the kit's lay-shelf and lay-plain), and what it says of a row of one's own.
-/
import Derived.Test.YthniohgeojenaaaM11
import Derived.Test.YthniohgeojenaaaA16
import Derived.Shelf.Sort.Plain
import Derived.Shelf.Slices.In.SortNone
import Derived.Sort.OwnSortedInts
namespace Go.Proofs.Ythniohgeojenaaa
open Go
set_option linter.unusedVariables false
set_option linter.unusedSimpArgs false
section
/-! Rising lists; sorting; what has been seen. -/
theorem ext_inc : ∀ {l l' : List Int}, Inc l → Inc l' → (∀ x, x ∈ l ↔ x ∈ l') → l = l'
  | [], [], _, _, _ => rfl
  | [], y :: r, _, _, h => by have := (h y).2 (by simp); cases this
  | y :: r, [], _, _, h => by have := (h y).1 (by simp); cases this
  | y :: r, y' :: r', hs, hs', h => by
    have h1 := (List.pairwise_cons.1 hs).1
    have h2 := (List.pairwise_cons.1 hs').1
    have e : y = y' := by
      rcases List.mem_cons.1 ((h y).1 (by simp)) with e | hy
      · exact e
      · rcases List.mem_cons.1 ((h y').2 (by simp)) with e | hy'
        · exact e.symm
        · have := h1 y' hy'; have := h2 y hy; omega
    subst e
    have hr : r = r' := ext_inc (List.pairwise_cons.1 hs).2 (List.pairwise_cons.1 hs').2 fun x => by
      constructor
      · intro hx
        rcases List.mem_cons.1 ((h x).1 (List.mem_cons_of_mem _ hx)) with e | hx'
        · have := h1 x hx; omega
        · exact hx'
      · intro hx
        rcases List.mem_cons.1 ((h x).2 (List.mem_cons_of_mem _ hx)) with e | hx'
        · have := h2 x hx; omega
        · exact hx'
    rw [hr]
def srt (l : List Int) : List Int := l.mergeSort fun x y => decide (x ≤ y)
theorem srt_mem {l : List Int} {x : Int} : x ∈ srt l ↔ x ∈ l := (List.mergeSort_perm l _).mem_iff
theorem srt_inc {l : List Int} (h : l.Nodup) : Inc (srt l) := by
  have h1 : (srt l).Pairwise fun a b => (decide (a ≤ b)) = true := List.pairwise_mergeSort (fun a b c h1 h2 => by simp at *; omega) (fun a b => by simp; omega) l
  have h2 : (srt l).Nodup := (List.mergeSort_perm l _).nodup_iff.2 h
  refine (List.pairwise_iff_getElem.2 fun i j hi hj hij => ?_)
  have a := List.pairwise_iff_getElem.1 h1 i j hi hj hij
  have b := List.pairwise_iff_getElem.1 h2 i j hi hj hij
  simp at a
  omega
/-- each number once, where it comes first -/
def onceI (l : List Int) : List Int := l.foldl (fun o x => if x ∈ o then o else o ++ [x]) []
theorem onceI_snoc (l : List Int) (x : Int) : onceI (l ++ [x]) = if x ∈ onceI l then onceI l else onceI l ++ [x] := by unfold onceI; rw [List.foldl_append]; rfl
theorem foldOnce : ∀ (l o : List Int), o.Nodup → (l.foldl (fun o x => if x ∈ o then o else o ++ [x]) o).Nodup ∧ (l.foldl (fun o x => if x ∈ o then o else o ++ [x]) o).length ≤ o.length + l.length ∧ ∀ z, z ∈ l.foldl (fun o x => if x ∈ o then o else o ++ [x]) o ↔ z ∈ o ∨ z ∈ l
  | [], o, h => ⟨h, by simp, by simp⟩
  | x :: r, o, h => by
    rw [List.foldl_cons]
    by_cases hx : x ∈ o
    · rw [if_pos hx]
      obtain ⟨a, b, c⟩ := foldOnce r o h
      refine ⟨a, by simp; omega, fun z => ?_⟩
      rw [c z, List.mem_cons]
      constructor
      · rintro (h | h)
        · exact .inl h
        · exact .inr (.inr h)
      · rintro (h | h | h)
        · exact .inl h
        · exact .inl (h ▸ hx)
        · exact .inr h
    · rw [if_neg hx]
      have hn : (o ++ [x]).Nodup := by
        rw [List.nodup_append]
        refine ⟨h, by simp, fun a ha b hb => ?_⟩
        simp at hb
        subst hb
        exact fun e => hx (e ▸ ha)
      obtain ⟨a, b, c⟩ := foldOnce r (o ++ [x]) hn
      refine ⟨a, by simp at b ⊢; omega, fun z => ?_⟩
      rw [c z]; simp [or_assoc]
theorem onceI_spec (l : List Int) : (onceI l).Nodup ∧ (onceI l).length ≤ l.length ∧ ∀ z, z ∈ onceI l ↔ z ∈ l := by
  have h := foldOnce l [] List.Pairwise.nil
  unfold onceI
  refine ⟨h.1, by have := h.2.1; simpa only [List.length_nil, Nat.zero_add] using this, fun z => by have := h.2.2 z; simpa only [List.not_mem_nil, false_or] using this⟩
theorem foldS_mem : ∀ (l o : List Int) {z : Int}, z ∈ l.foldl (fun o x => insI x o) o ↔ z ∈ o ∨ z ∈ l
  | [], o, z => by simp
  | x :: r, o, z => by
    rw [List.foldl_cons, foldS_mem r, insI_mem, List.mem_cons]
    constructor
    · rintro ((h | h) | h)
      · exact .inr (.inl h)
      · exact .inl h
      · exact .inr (.inr h)
    · rintro (h | h | h)
      · exact .inl (.inr h)
      · exact .inl (.inl h)
      · exact .inr h
/-- both ways to a set -/
theorem srt_once (l : List Int) : srt (onceI l) = sortI l := by
  have h := onceI_spec l
  exact ext_inc (srt_inc h.1) (sortI_inc l) fun x => by rw [srt_mem, h.2.2, sortI_mem]
end
section
/-! slices.Sort at numbers: the shelf's contract laid at this program (written by the kit's lay-shelf and lay-plain), and what it says of a row of one's own. -/
section
open Go.Shelf
def lays189_ren : Go.Shelf.Ren := ⟨fun | 189 => 95 | 125 => 107 | 257 => 106 | 128 => 119 | 129 => 120 | 294 => 111 | 295 => 112 | 296 => 113 | 297 => 114 | 298 => 115 | 299 => 116 | 216 => 100 | 300 => 117 | 301 => 118 | 328 => 122 | 329 => 123 | 330 => 124 | 331 => 125 | 332 => 126 | 215 => 88 | 343 => 127 | n => n, fun | 28 => 29 | 3 => 3 | 46 => 118 | 0 => 0 | 51 => 143 | 53 => 145 | 4 => 4 | 183 => 137 | 182 => 136 | 131 => 62 | 5 => 5 | 9 => 9 | 218 => 147 | 222 => 151 | 228 => 153 | 229 => 154 | n => n, fun | n => n⟩
theorem lays189 : Go.Proofs.Lays.n189 Try.prog lays189_ren := {
  mixed := by kernel_rfl
  f125 := Try.func107.trans (congrArg some (by kernel_rfl))
  f128 := Try.func119.trans (congrArg some (by kernel_rfl))
  f129 := Try.func120.trans (congrArg some (by kernel_rfl))
  f189 := Try.func95.trans (congrArg some (by kernel_rfl))
  f215 := Try.func88.trans (congrArg some (by kernel_rfl))
  f216 := Try.func100.trans (congrArg some (by kernel_rfl))
  f257 := Try.func106.trans (congrArg some (by kernel_rfl))
  f294 := Try.func111.trans (congrArg some (by kernel_rfl))
  f295 := Try.func112.trans (congrArg some (by kernel_rfl))
  f296 := Try.func113.trans (congrArg some (by kernel_rfl))
  f297 := Try.func114.trans (congrArg some (by kernel_rfl))
  f298 := Try.func115.trans (congrArg some (by kernel_rfl))
  f299 := Try.func116.trans (congrArg some (by kernel_rfl))
  f300 := Try.func117.trans (congrArg some (by kernel_rfl))
  f301 := Try.func118.trans (congrArg some (by kernel_rfl))
  f328 := Try.func122.trans (congrArg some (by kernel_rfl))
  f329 := Try.func123.trans (congrArg some (by kernel_rfl))
  f330 := Try.func124.trans (congrArg some (by kernel_rfl))
  f331 := Try.func125.trans (congrArg some (by kernel_rfl))
  f332 := Try.func126.trans (congrArg some (by kernel_rfl))
  f343 := Try.func127.trans (congrArg some (by kernel_rfl))
  t0 := Try.underlying0
  a0 := Try.isAgg0
  z0 := Try.sizeOf0
  v0 := Try.zeroValue0
  t3 := Try.underlying3
  a3 := Try.isAgg3
  z3 := Try.sizeOf3
  v3 := Try.zeroValue3
  t4 := Try.underlying4
  a4 := Try.isAgg4
  z4 := Try.sizeOf4
  v4 := Try.zeroValue4
  t5 := Try.underlying5
  a5 := Try.isAgg5
  z5 := Try.sizeOf5
  v5 := Try.zeroValue5
  t9 := Try.underlying9
  a9 := Try.isAgg9
  z9 := Try.sizeOf9
  v9 := Try.zeroValue9
  t28 := Try.underlying29
  a28 := Try.isAgg29
  z28 := Try.sizeOf29
  v28 := Try.zeroValue29
  t46 := Try.underlying118
  a46 := Try.isAgg118
  z46 := Try.sizeOf118
  v46 := Try.zeroValue118
  t51 := Try.underlying143
  a51 := Try.isAgg143
  z51 := Try.sizeOf143
  v51 := Try.zeroValue143
  t53 := Try.underlying145
  a53 := Try.isAgg145
  z53 := Try.sizeOf145
  v53 := Try.zeroValue145
  t131 := Try.underlying62
  a131 := Try.isAgg62
  z131 := Try.sizeOf62
  v131 := Try.zeroValue62
  t182 := Try.underlying136
  a182 := Try.isAgg136
  z182 := Try.sizeOf136
  v182 := Try.zeroValue136
  t183 := Try.underlying137
  a183 := Try.isAgg137
  z183 := Try.sizeOf137
  v183 := Try.zeroValue137
  t218 := Try.underlying147
  a218 := Try.isAgg147
  z218 := Try.sizeOf147
  v218 := Try.zeroValue147
  t222 := Try.underlying151
  a222 := Try.isAgg151
  z222 := Try.sizeOf151
  v222 := Try.zeroValue151
  t228 := Try.underlying153
  a228 := Try.isAgg153
  z228 := Try.sizeOf153
  v228 := Try.zeroValue153
  t229 := Try.underlying154
  a229 := Try.isAgg154
  z229 := Try.sizeOf154
  v229 := Try.zeroValue154 }
open Go.Sort Go.RowKit in
theorem slices_Sort_int (blk off cap : Nat) (zs : List Int) (w : World) (hH : Go.Sort.Holds (Value.int .i64) w blk off zs.toArray) (hblk : blk < w.heap.size) (hsz : zs.length < 4611686018427387904) :
    Calls Try.prog 95 #[.slice (some ⟨blk, off, none⟩) zs.length cap] w fun e w' =>
      e = .returned (.tuple #[]) ∧ ∃ n os, w' = Go.Sort.grow (Go.Sort.putRow (Value.int .i64) (Go.Sort.ahead w n) blk off (zs.mergeSort fun x y => decide (x ≤ y)).toArray) os := Any.slices_Sort_int lays189 blk off cap zs w hH hblk hsz
theorem slices_Sort_int_none (p : Option Addr) (cap : Nat) (w : World) : Calls Try.prog 95 #[.slice p 0 cap] w fun e w' => e = .returned (.tuple #[]) ∧ w' = w := Any.slices_Sort_int_none lays189 p cap w
end
theorem moves_sorted {w : World} {g k : Nat} {os : Array Obj} {d : Array Int} : Moves w (Go.Sort.grow (Go.Sort.putRow (Value.int .i64) (Go.Sort.ahead w k) g 0 d) os) [g] :=
  have h := grownBy_sortedI (w := w) (g := g) (n := k) (os := os) d
  ⟨rfl, rfl, rfl, h.size, fun j hj hn => h.block j hj fun e => hn (by simp at e; simp [e])⟩
theorem sortSome_fn {H : Hp} {b n cp : Nat} {l : List Int} (hm : l.length < 4611686018427387904) : Fn Try.prog 95 [.slice (some ⟨b, 0, none⟩) n cp] H [.row (.slice (some ⟨b, 0, none⟩) n cp) 1 (l.map irow)] fun v H' I' => v = .tuple #[] ∧ H' = H ∧ I' = [.row (.slice (some ⟨b, 0, none⟩) n cp) 1 ((srt l).map irow)] := by
  intro w hw
  have hr : RowOk w (.slice (some ⟨b, 0, none⟩) n cp) 1 (l.map irow) := hw.own _ (List.mem_cons_self)
  rcases hr with ⟨hv, _⟩ | ⟨b', cap, rest, T, hv, hk, hc, hb, hl⟩
  · cases hv
  · cases hv
    simp only [List.length_map] at hc hw ⊢
    have hfl : (l.map irow).flatten = l.map (Value.int .i64) := by
      clear hw hb hl hk hc hm
      induction l with
      | nil => rfl
      | cons x r ih => simp only [List.map_cons, List.flatten_cons, ih]; rfl
    rw [hfl] at hb hl
    have hHs : Go.Sort.Holds (Value.int .i64) w b 0 l.toArray := holds_of_blockI hb (by simp)
    have hlt := hw.lt b (by simp [Own.blocks, Res.blocks])
    refine (slices_Sort_int b 0 cp l w hHs hlt hm).mono ?_
    rintro e w' ⟨rfl, k, os, rfl⟩
    refine ⟨.tuple #[], H, _, rfl, ?_, rfl, rfl, rfl⟩
    have hsl : (srt l).length = l.length := (List.mergeSort_perm l _).length_eq
    refine Holds.frameH (I := [.row (.slice (some ⟨b, 0, none⟩) l.length cp) 1 (l.map irow)]) (I' := [.row (.slice (some ⟨b, 0, none⟩) l.length cp) 1 ((srt l).map irow)]) (R := []) hw (moves_sorted.mono (by simp [Own.blocks, Res.blocks])) (Own.ok_one ?_) (Own.sep_one _) (fun b' hb' => .inr (by simpa [Own.blocks, Res.blocks] using hb'))
    refine .inr ⟨b, cp, rest, T, by rw [List.length_map, hsl], ?_, by rw [List.length_map, hsl]; exact hc, ?_, ?_⟩
    · intro cs hcs
      obtain ⟨x, _, rfl⟩ := List.mem_map.1 hcs
      rfl
    · have hfs : ((srt l).map irow).flatten = (srt l).map (Value.int .i64) := by
        generalize srt l = z
        induction z with
        | nil => rfl
        | cons x r ih => simp only [List.map_cons, List.flatten_cons, ih]; rfl
      rw [hfs, heap_sortedI _ hb]
      refine congrArg (fun z => some (Obj.cells z T (0, 0))) ?_
      apply Array.ext_getElem?
      intro j
      simp only [Go.Sort.putCells, Array.getElem?_mapIdx, List.getElem?_toArray]
      by_cases hj : j < l.length
      · rw [List.getElem?_append_left (by simpa using hj), List.getElem?_append_left (by simpa [hsl] using hj)]
        have h1 : (srt l)[j]? = some (srt l)[j] := List.getElem?_eq_getElem (by omega)
        simp [hj, hsl, h1, srt]
      · rw [List.getElem?_append_right (by simp; omega), List.getElem?_append_right (by simp [hsl]; omega)]
        simp only [List.length_map, hsl]
        cases rest[j - l.length]? with
        | none => rfl
        | some v =>
          have h2 : ¬ (0 ≤ j ∧ j < 0 + (srt l).toArray.size) := by simp [hsl]; omega
          simp only [Option.map_some]
          exact congrArg some (if_neg h2)
    · rw [List.length_append] at hl ⊢
      simp only [List.length_map, List.length_flatten, List.map_map] at hl ⊢
      have hz : ((srt l).map irow).flatten.length = l.length := by
        rw [← hsl]
        generalize srt l = z
        induction z with
        | nil => rfl
        | cons x r ih => simp only [List.map_cons, List.flatten_cons, List.length_append, ih]; simp [irow]; omega
      simp only [List.length_flatten, List.map_map] at hz
      omega
theorem sortInts_fn {H : Hp} {a : Option Addr} {n cp : Nat} {l : List Int} (hm : l.length < 4611686018427387904) : Fn Try.prog 95 [.slice a n cp] H [.row (.slice a n cp) 1 (l.map irow)] fun v H' I' => v = .tuple #[] ∧ H' = H ∧ I' = [.row (.slice a n cp) 1 ((srt l).map irow)] := by
  intro w hw
  have hr : RowOk w (.slice a n cp) 1 (l.map irow) := hw.own _ (List.mem_cons_self)
  rcases hr with ⟨hv, hl⟩ | ⟨b, cap, rest, T, hv, hk, hc, hb, hl⟩
  · cases hv
    obtain rfl : l = [] := by simpa using hl
    refine (slices_Sort_int_none none 0 w).mono ?_
    rintro e w' ⟨rfl, rfl⟩
    have e : srt [] = [] := by simp [srt]
    exact ⟨_, H, _, rfl, hw, rfl, rfl, by rw [e]⟩
  · cases hv
    exact sortSome_fn hm w hw
end
end Go.Proofs.Ythniohgeojenaaa
