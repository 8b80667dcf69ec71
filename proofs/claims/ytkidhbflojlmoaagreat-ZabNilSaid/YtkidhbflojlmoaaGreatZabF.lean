/- The walks of those, on, of a node that is alone. Conditions: as each theorem says. -/
import Derived.Test.YtkidhbflojlmoaaGreatZabE
namespace Go.Proofs.YtkidhbflojlmoaaGreat
open Go.RowKit

structure Nd.lone (n : Nd) : Prop where
  nodes : n.nodes = 1
  me : n.me = 0
  peers : n.peers.length = 7
theorem Nd.lone.fit {n : Nd} (h : n.lone) : n.fit := ⟨by rw [h.nodes]; omega, by rw [h.nodes]; omega, by rw [h.nodes, h.me]; omega, h.peers⟩
/-- Nobody else is told. -/
theorem those_one (g : Nat) (n : Nd) (hl : n.lone) (f x : Value) (w : World) (h : NodeAt g n w) :
    Calls Tryz.prog 30 #[ptrV g, f, x] w fun e w' => e = .returned (.tuple #[]) ∧ Below w.heap.size w w' := by
  have c6 : w.cell? ⟨g, 6, none⟩ = some (.int .i64 0) := by have := h.cell (i := 6) (v := .int .i64 (n.me : Int)) (by rfl); rw [hl.me] at this; exact this
  have c7 : w.cell? ⟨g, 7, none⟩ = some (.int .i64 1) := by have := h.cell (i := 7) (v := .int .i64 (n.nodes : Int)) (by rfl); rw [hl.nodes] at this; exact this
  unfold ptrV
  clear h hl
  go_enter Tryz.func30, Tryz.ntmps30
  go_wp2
  go_loopg [11] 1 (fun gk v11 wr => v11 = .int .i64 ((1 : Int) - gk) ∧ gk ≤ 1 ∧ Hid (Below w.heap.size w wr))
  case atStart => exact ⟨rfl, Nat.le_refl _, Lib.hid (Below.refl _ _)⟩
  case round =>
    obtain ⟨rfl, hg, HB⟩ := hrel
    rcases Nat.eq_zero_or_pos gk with hz | hpos
    · subst hz
      go_wp2
      go_end0
      exact ⟨rfl, HB.out⟩
    · obtain rfl : gk = 1 := by omega
      have c6 := Grew.cell HB.out c6
      go_wp2
      go_roundg 0
      case rel => exact ⟨rfl, by omega, HB⟩
      case measure => omega
end Go.Proofs.YtkidhbflojlmoaaGreat
