/- Worlds in which two blocks alone may have changed. General. Conditions: as each theorem says. -/
import Derived.Test.YtlcblkmmkphpmaaGrow
namespace Go.Proofs.Ytlcblkmmkphpmaa
open Go.RowKit

/-- Two blocks alone may have changed of what there was. -/
structure Gr2 (q v : Nat) (a b : World) : Prop where
  os : b.os = a.os
  tape : b.tape = a.tape
  output : b.output = a.output
  size : a.heap.size ≤ b.heap.size
  block : ∀ i, i < a.heap.size → i ≠ q → i ≠ v → b.heap[i]? = a.heap[i]?
theorem Gr2.refl (q v : Nat) (w : World) : Gr2 q v w w := ⟨rfl, rfl, rfl, Nat.le_refl _, fun _ _ _ _ => rfl⟩
theorem Gr2.trans {q v : Nat} {a b c : World} (h : Gr2 q v a b) (k : Gr2 q v b c) : Gr2 q v a c :=
  ⟨k.os.trans h.os, k.tape.trans h.tape, k.output.trans h.output, Nat.le_trans h.size k.size, fun i hi hq hv => (k.block i (Nat.lt_of_lt_of_le hi h.size) hq hv).trans (h.block i hi hq hv)⟩
theorem Gr2.of_q {q v : Nat} {a b : World} (h : a.grownBy b (some q)) : Gr2 q v a b := ⟨h.os, h.tape, h.output, h.size, fun i hi hq _ => h.block i hi (fun e => hq (Option.some.inj e))⟩
theorem Gr2.of_v {q v : Nat} {a b : World} (h : a.grownBy b (some v)) : Gr2 q v a b := ⟨h.os, h.tape, h.output, h.size, fun i hi _ hv => h.block i hi (fun e => hv (Option.some.inj e))⟩
theorem Gr2.of_below {q v : Nat} {a b : World} (h : Below a.heap.size a b) : Gr2 q v a b := ⟨h.os, h.tape, h.output, h.size, fun i hi _ _ => h.block i hi⟩
theorem Gr2.drew {q v : Nat} {a b : World} (h : Gr2 q v a b) : Gr2 q v a b.drew := ⟨h.os, h.tape, h.output, h.size, h.block⟩
theorem Gr2.own {q v k : Nat} {a b c : World} (h : Gr2 q v a b) (g : b.grownBy c (some k)) (hk : a.heap.size ≤ k) : Gr2 q v a c :=
  ⟨g.os.trans h.os, g.tape.trans h.tape, g.output.trans h.output, Nat.le_trans h.size g.size, fun j hj hq hv => by rw [g.block j (Nat.lt_of_lt_of_le hj h.size) (fun e => by have := Option.some.inj e; omega), h.block j hj hq hv]⟩
/-- A row of the call's own was written. -/
theorem Gr2.row {q v : Nat} {r : Option Nat} {a b c : World} (h : Gr2 q v a b) (g : b.grownBy c r) (hk : ∀ k, r = some k → a.heap.size ≤ k) : Gr2 q v a c :=
  ⟨g.os.trans h.os, g.tape.trans h.tape, g.output.trans h.output, Nat.le_trans h.size g.size, fun j hj hq hv => by rw [g.block j (Nat.lt_of_lt_of_le hj h.size) (fun e => by have := hk _ e.symm; omega), h.block j hj hq hv]⟩
theorem Gr2.blk {q v g : Nat} {T : TypeId} {cs : List Value} {a b : World} (h : Gr2 q v a b) (hb : BlkAt g T cs a) (hq : g ≠ q) (hv : g ≠ v) : BlkAt g T cs b := by
  have hl := BlkAt.lt hb
  unfold BlkAt at *
  rw [h.block g hl hq hv]; exact hb
theorem Gr2.cell {q v : Nat} {a b : World} (h : Gr2 q v a b) {g o : Nat} {u : Value} (hc : a.cell? ⟨g, o, none⟩ = some u) (hq : g ≠ q) (hv : g ≠ v) : b.cell? ⟨g, o, none⟩ = some u := by
  have hl := block_lt_of_cell hc
  rw [← hc]
  exact World.cell?_of_block (h.block g hl hq hv)
theorem Gr2.rows {α : Type} {k : Nat} {enc : α → List Value} {q v : Nat} {a b : World} {ad : Option Addr} {cap : Nat} {L : List α} (h : Gr2 q v a b) (hE : RowsAt k enc a (.slice ad L.length cap) L) (hne : ∀ p, ad = some p → p.block ≠ q ∧ p.block ≠ v) : RowsAt k enc b (.slice ad L.length cap) L := by
  obtain ⟨a', cap', hv', hc⟩ := hE
  refine ⟨a', cap', hv', fun i hi => ?_⟩
  obtain ⟨g, off, e, c0⟩ := hc i hi
  simp only [Value.slice.injEq] at hv'
  obtain ⟨rfl, _, _⟩ := hv'
  obtain ⟨n1, n2⟩ := hne _ e
  exact ⟨g, off, e, fun j u hj => h.cell (c0 j u hj) n1 n2⟩
/-- A row of the call's own stays, where neither block is one of the row's. -/
theorem Gr2.grow {α : Type} {T : TypeId} {k : Nat} {enc : α → List Value} {base : Nat} {u : Value} {L : List α} {q v : Nat} {a b : World} (h : Gr2 q v a b) (hG : Grow T k enc base u L a) (hq : q < base) (hv : v < base) : Grow T k enc base u L b := by
  rcases hG.2 with h2 | ⟨g, cap, cur, hu, hg, hh, r⟩
  · exact ⟨hG.1, .inl h2⟩
  · have hl : g < a.heap.size := by
      rcases Nat.lt_or_ge g a.heap.size with h' | h'
      · exact h'
      · simp [Array.getElem?_eq_none h'] at hh
    exact ⟨hG.1, .inr ⟨g, cap, cur, hu, hg, by rw [h.block g hl (by omega) (by omega)]; exact hh, r⟩⟩
/-- Where both blocks are new, nothing older has changed. -/
theorem Gr2.below {q v : Nat} {w a b : World} (h : Gr2 q v a b) (hw : Below w.heap.size w a) (hq : w.heap.size ≤ q) (hv : w.heap.size ≤ v) : Below w.heap.size w b :=
  ⟨h.os.trans hw.os, h.tape.trans hw.tape, h.output.trans hw.output, Nat.le_trans hw.size h.size, fun i hi => (h.block i (Nat.lt_of_lt_of_le hi hw.size) (by omega) (by omega)).trans (hw.block i hi)⟩
end Go.Proofs.Ytlcblkmmkphpmaa
