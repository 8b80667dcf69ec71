/- Blocks known as lists of cells; worlds in which one block alone was written. Conditions: as each theorem says. -/
import Derived.Test.YteoibolompiohaaKit
import Derived.Deep.MidRow
import Derived.Lib.EndianMore
import Derived.Lib.BufferMore
import Derived.Maps.AppendAt
namespace Go.Proofs.Yteoibolompiohaa
open Go.RowKit

def BlkAt (g : Nat) (T : TypeId) (cs : List Value) (w : World) : Prop := w.heap[g]? = some (.cells cs.toArray T (0, 0))
theorem BlkAt.cell {g : Nat} {T : TypeId} {cs : List Value} {w : World} (h : BlkAt g T cs w) {i : Nat} {v : Value} (hv : cs[i]? = some v) : w.cell? ⟨g, i, none⟩ = some v := by
  rw [Lib.cell_of_heap h]; simpa using hv
theorem BlkAt.frozen {g : Nat} {T : TypeId} {cs : List Value} {w : World} (h : BlkAt g T cs w) (i : Nat) : w.frozen? ⟨g, i, none⟩ = false := Lib.frozen_of_heap h i
theorem BlkAt.set {g : Nat} {T : TypeId} {cs : List Value} {w : World} (h : BlkAt g T cs w) (i : Nat) (v : Value) : BlkAt g T (cs.set i v) (w.setCell ⟨g, i, none⟩ v) := by
  have := Lib.heap_setCell_same (i := i) h v
  simpa [BlkAt] using this
theorem BlkAt.grew {g : Nat} {T : TypeId} {cs : List Value} {w w' : World} (h : BlkAt g T cs w) (hb : Below w.heap.size w w') : BlkAt g T cs w' := Grew.at_ hb h
theorem BlkAt.drew {g : Nat} {T : TypeId} {cs : List Value} {w : World} (h : BlkAt g T cs w) : BlkAt g T cs w.drew := h
theorem BlkAt.lt {g : Nat} {T : TypeId} {cs : List Value} {w : World} (h : BlkAt g T cs w) : g < w.heap.size := (Array.getElem?_eq_some_iff.1 h).1
theorem BlkAt.range {g : Nat} {T : TypeId} {cs : List Value} {w : World} (h : BlkAt g T cs w) (o : Nat) (vs : List Value) (hv : ∀ j, j < vs.length → cs[o + j]? = vs[j]?) : w.rangeAt g o vs := by
  intro j v hj
  have hlt := (List.getElem?_eq_some_iff.1 hj).1
  exact h.cell (by rw [hv j hlt]; exact hj)
theorem BlkAt.there {g : Nat} {T : TypeId} {cs : List Value} {w : World} (h : BlkAt g T cs w) (o n : Nat) (hn : o + n ≤ cs.length) : w.there g o n := by
  intro j hj
  refine ⟨?_, h.frozen _⟩
  rw [h.cell (v := cs[o + j]'(by omega)) (by simp [show o + j < cs.length by omega])]
  rfl
theorem BlkAt.alloc_new (w : World) (cs : List Value) (T : TypeId) : BlkAt w.heap.size T cs (w.alloc (.cells cs.toArray T)) := heap_alloc_new w _
theorem alloc_below (w : World) (o : Obj) : Below w.heap.size w (w.alloc o) := (Below.refl _ _).alloc (Nat.le_refl _) _
theorem grown_drew (w : World) (row : Option Nat) : w.grownBy w.drew row := ⟨rfl, rfl, rfl, Nat.le_refl _, fun _ _ _ => rfl⟩
theorem grown_set (w : World) (g i : Nat) (v : Value) : w.grownBy (w.setCell ⟨g, i, none⟩ v) (some g) := by
  have b := (Below.refl g w).setCell (p := ⟨g, i, none⟩) (Nat.le_refl _) v
  exact ⟨b.os, b.tape, b.output, b.size, fun k _ hk => Below.heap_setCell _ _ _ _ (fun h => hk (by rw [h]))⟩
theorem grown_below {w w' : World} (h : Below w.heap.size w w') (row : Option Nat) : w.grownBy w' row := ⟨h.os, h.tape, h.output, h.size, fun k hk _ => h.block k hk⟩
theorem BlkAt.grown {g : Nat} {T : TypeId} {cs : List Value} {w w' : World} {row : Option Nat} (h : BlkAt g T cs w) (hg : w.grownBy w' row) (hne : some g ≠ row) : BlkAt g T cs w' := by
  have hl := h.lt
  unfold BlkAt at *
  rw [hg.block g hl hne]; exact h
def ptrV (g : Nat) : Value := .pointer (some ⟨g, 0, none⟩)
end Go.Proofs.Yteoibolompiohaa
