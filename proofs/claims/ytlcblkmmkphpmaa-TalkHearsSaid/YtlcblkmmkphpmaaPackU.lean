/- The walk of the program's reader: List. Conditions: as each theorem says. -/
import Derived.Test.YtlcblkmmkphpmaaPackT
namespace Go.Proofs.Ytlcblkmmkphpmaa
open Go.RowKit

theorem listR_w (r : Rd) (h : (numR r).2.e ≠ 0) : listR r = ([], (numR r).2) := by unfold listR; rw [if_pos h]
theorem listR_n (r : Rd) (h : (numR r).2.e = 0) (hn : (numR r).1 < 0 ∨ 10000 < (numR r).1) : listR r = ([], ⟨(numR r).2.l, 11⟩) := by unfold listR; rw [if_neg (by omega), if_pos hn]
theorem listR_o (r : Rd) (h : (numR r).2.e = 0) (h1 : 0 ≤ (numR r).1) (h2 : (numR r).1 ≤ 10000) : listR r = textsR (numR r).1.toNat [] (numR r).2 := by unfold listR; rw [if_neg (by omega), if_neg (by omega)]
theorem textsR_stop (k : Nat) (D : List (List UInt8)) (r : Rd) (h : (textR r).2.e ≠ 0) : textsR (k + 1) D r = ([], (textR r).2) := by unfold textsR; rw [if_pos h]
theorem textsR_go (k : Nat) (D : List (List UInt8)) (r : Rd) (h : (textR r).2.e = 0) : textsR (k + 1) D r = textsR k (D ++ [(textR r).1]) (textR r).2 := by rw [textsR, if_neg (by omega)]
theorem grown_own {a w w' : World} {row row' : Option Nat} (h : a.grownBy w row) (k : w.grownBy w' row') (hr : ∀ k, row' = some k → a.heap.size ≤ k) : a.grownBy w' row :=
  ⟨k.os.trans h.os, k.tape.trans h.tape, k.output.trans h.output, Nat.le_trans h.size k.size, fun i hi hne => (k.block i (Nat.lt_of_lt_of_le hi h.size) (fun e => by have := hr i e.symm; omega)).trans (h.block i hi hne)⟩
theorem grown_alloc (w : World) (o : Obj) (row : Option Nat) : w.grownBy (w.alloc o) row := ⟨rfl, rfl, rfl, by simp, fun k hk _ => Below.heap_alloc _ _ _ hk⟩
theorem own_grown {w w' : World} {base e size n b : Nat} {v : Value} {xs : List Value} (h : w.ownsRow base e size v n xs) (hg : w.grownBy w' (some b)) (hb : v.ownBlock ≠ some b) : w'.ownsRow base e size v n xs := h.kept hg (Or.inr (fun e => hb (by rw [e])))
theorem strs_size {L : List (List UInt8)} : (L.map str).length = L.length := by simp
/-- What the list's reader hands back: a slice that reads as the texts. -/
def ListSaid (T b : Nat) (r : Rd) (w : World) (e : Ending) (w' : World) : Prop :=
  ∃ a cap, e = .returned (.slice a (listR r).1.length cap) ∧ StrsAt w' (.slice a (listR r).1.length cap) (listR r).1 ∧ (listR r).1.length ≤ 10000 ∧ RdAt T b (listR r).2 w' ∧ w.grownBy w' (some b) ∧ ∀ p, a = some p → w.heap.size ≤ p.block

end Go.Proofs.Ytlcblkmmkphpmaa
