/- What a call leaves alone: only blocks of a footprint change, and new ones come. General: no function of the program in sight. Conditions: as each theorem says. -/
import Derived.Test.YteoibolompiohaaKit
namespace Go.Proofs.Yteoibolompiohaa
open Go.RowKit

/-- Only blocks of a footprint may have changed, and new ones come. -/
structure Apart (F : Nat → Prop) (a b : World) : Prop where
  os : b.os = a.os
  tape : b.tape = a.tape
  output : b.output = a.output
  size : a.heap.size ≤ b.heap.size
  block : ∀ i, i < a.heap.size → ¬ F i → b.heap[i]? = a.heap[i]?
theorem Apart.refl (F : Nat → Prop) (w : World) : Apart F w w := ⟨rfl, rfl, rfl, Nat.le_refl _, fun _ _ _ => rfl⟩
theorem Apart.trans {F G : Nat → Prop} {a b c : World} (h : Apart F a b) (k : Apart G b c) (hG : ∀ i, G i → F i ∨ a.heap.size ≤ i) : Apart F a c :=
  ⟨k.os.trans h.os, k.tape.trans h.tape, k.output.trans h.output, Nat.le_trans h.size k.size, fun i hi hF => (k.block i (Nat.lt_of_lt_of_le hi h.size) (fun hg => by rcases hG i hg with h1 | h1; exact hF h1; omega)).trans (h.block i hi hF)⟩
theorem Apart.of_below {F : Nat → Prop} {a b : World} (h : Below a.heap.size a b) : Apart F a b := ⟨h.os, h.tape, h.output, h.size, fun i hi _ => h.block i hi⟩
theorem Apart.of_grown {F : Nat → Prop} {a b : World} {row : Option Nat} (h : a.grownBy b row) (hr : ∀ g, row = some g → F g ∨ a.heap.size ≤ g) : Apart F a b :=
  ⟨h.os, h.tape, h.output, h.size, fun i hi hF => h.block i hi (fun e => by rcases hr i e.symm with h1 | h1; exact hF h1; omega)⟩
theorem Apart.mono {F G : Nat → Prop} {a b : World} (h : Apart F a b) (hFG : ∀ i, F i → G i) : Apart G a b := ⟨h.os, h.tape, h.output, h.size, fun i hi hG => h.block i hi (fun hf => hG (hFG i hf))⟩
theorem Apart.below {F : Nat → Prop} {n : Nat} {a b : World} (h : Apart F a b) (hn : n ≤ a.heap.size) (hF : ∀ i, F i → n ≤ i) : Below n a b :=
  ⟨h.os, h.tape, h.output, h.size, fun i hi => h.block i (Nat.lt_of_lt_of_le hi hn) (fun hf => by have := hF i hf; omega)⟩
theorem Apart.drew {F : Nat → Prop} {a b : World} (h : Apart F a b) : Apart F a b.drew := ⟨h.os, h.tape, h.output, h.size, h.block⟩
/-- A footprint with what a call has laid. -/
def Foot (F : Nat → Prop) (w w' : World) : Nat → Prop := fun b => F b ∨ (w.heap.size ≤ b ∧ b < w'.heap.size)
end Go.Proofs.Yteoibolompiohaa
