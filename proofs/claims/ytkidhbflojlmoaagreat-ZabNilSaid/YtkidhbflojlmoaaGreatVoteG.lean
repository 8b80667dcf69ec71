/- Take, whole; comparing structs. Conditions: as each theorem says. -/
import Derived.Test.YtkidhbflojlmoaaGreatVoteC
namespace Go.Proofs.YtkidhbflojlmoaaGreat
open Go.RowKit

theorem bal_eq (a b : Bal) : (a.l == b.l && a.e == b.e && a.c == b.c && a.p == b.p) = decide (a = b) := by
  obtain ⟨a1, a2, a3, a4⟩ := a
  obtain ⟨b1, b2, b3, b4⟩ := b
  rw [Bool.eq_iff_iff]
  simp [Bal.mk.injEq, and_assoc]
set_option maxRecDepth 100000 in
theorem run_eq_told (a b : Bool × Bal) (W : World) : (binOp .eql 133 (.agg (toldCells a).toArray) (.agg (toldCells b).toArray)).run Tryz.prog W = .ok (.bool (decide (a = b))) W := by
  obtain ⟨a0, a1, a2, a3, a4⟩ := a
  obtain ⟨b0, b1, b2, b3, b4⟩ := b
  unfold toldCells Bal.cells
  go_simp
  by_cases h0 : a0 = b0 <;> by_cases h1 : a1 = b1 <;> by_cases h2 : a2 = b2 <;> by_cases h3 : a3 = b3 <;> by_cases h4 : a4 = b4 <;> simp [h0, h1, h2, h3, h4]
end Go.Proofs.YtkidhbflojlmoaaGreat
