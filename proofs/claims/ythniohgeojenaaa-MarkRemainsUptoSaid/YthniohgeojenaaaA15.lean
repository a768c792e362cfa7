/-
  A row of one's own lent to a callee that reads it.
-/
import Derived.Test.YthniohgeojenaaaA14
namespace Go.Proofs.Ythniohgeojenaaa
open Go
set_option linter.unusedVariables false
set_option linter.unusedSimpArgs false
theorem cell_same {w w' : World} {b o : Nat} (h : w'.heap[b]? = w.heap[b]?) : w'.cell? ⟨b, o, none⟩ = w.cell? ⟨b, o, none⟩ := by
  unfold World.cell?
  rw [h]
theorem Fn.borrow {P : Program} {f : FuncId} {args : List Value} {H : Hp} {a : Option Addr} {n c k : Nat} {css : List (List Value)} {Q : Value → Prop} (h1 : ∀ cs ∈ css, ∀ u ∈ cs, u.oneCell' = true)
    (h : ∀ H1, HLe H H1 → HRow H1 a n c k css → Fn P f args H1 [] fun v _ I' => Q v ∧ I' = []) :
    Fn P f args H [.row (.slice a n c) k css] fun v H' I' => Q v ∧ H' = H ∧ I' = [.row (.slice a n c) k css] := by
  intro w hw
  obtain ⟨H1, hle, hr, hh⟩ := Holds.freeze (R := []) hw h1
  have h0 : Holds ⟨w, H1, []⟩ H1 [] w := ⟨hh.mem, Own.ok_nil w, Own.sep_nil, fun b hb => (by cases hb), fun b hb => (by cases hb), ⟨rfl, rfl, rfl, Nat.le_refl _, fun _ _ _ => rfl⟩, fun _ _ _ h => h, fun _ _ _ h => .inl h, fun b o v h1 h2 => absurd (h1.symm.trans h2) (by simp)⟩
  refine (h H1 hle hr w h0).mono ?_
  rintro e w' ⟨v, H', I', rfl, hh', hq, rfl⟩
  have hb : ∀ b, b < w.heap.size → w'.heap[b]? = w.heap[b]? := fun b hb => hh'.old.block b hb (fun hm => by cases hm)
  refine ⟨v, H, _, rfl, ⟨?_, ?_, hw.sep, hw.apart, hw.fresh, ⟨hh'.old.os, hh'.old.tape, hh'.old.output, hh'.old.size, fun b hlt _ => hb b hlt⟩, hw.hle, hw.hnew, ?_⟩, hq, rfl, rfl⟩
  · intro b o v hv
    have := hw.mem b o v hv
    exact ⟨(cell_same (hb b (Mem.lt hw.mem hv))).trans this.1, this.2⟩
  · intro r hr
    exact Res.ok_of_block (hw.own r hr) fun b hbr => hb b (Res.block_lt (hw.own r hr) b hbr)
  · intro b o v hv hn
    rw [hb b (Mem.lt hw.mem hv)]
    exact hw.thaw b o v hv hn
end Go.Proofs.Ythniohgeojenaaa
