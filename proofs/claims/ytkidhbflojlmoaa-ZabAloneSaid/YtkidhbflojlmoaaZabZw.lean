/- The law of a node that is alone, for what came in. Conditions: as each theorem says. -/
import Derived.Test.YtkidhbflojlmoaaZabZ
namespace Go.Proofs.Ytkidhbflojlmoaa
open Go.RowKit

set_option maxRecDepth 100000 in
theorem cstr : Try.prog.cellsOf 9 = 1 := by kernel_rfl
theorem zabAlone_walk (W : World) (v0 v1 : Value) (n : Int) (h0 : IsStrs W v0) (h1 : IsBools W v1) (hn : (Lit.int .i64 n).wf = true) :
    Calls Try.prog 3 #[v0, v1, .int .i64 n] W fun e w' => e = .returned (.bool true) ∧ Below W.heap.size W w' := by
  obtain ⟨S, a, cap, rfl, l1, l2, hS, hs⟩ := h0
  obtain ⟨B, b, capb, rfl, k1, k2, hB, _⟩ := h1
  exact alone_any S a cap B b capb n hn W hS hB (Nat.le_trans l1 l2) (Nat.le_trans k1 k2) hs
end Go.Proofs.Ytkidhbflojlmoaa
