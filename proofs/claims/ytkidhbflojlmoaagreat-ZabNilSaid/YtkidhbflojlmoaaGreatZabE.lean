/- The walk of Phase. Conditions: as each theorem says. -/
import Derived.Test.YtkidhbflojlmoaaGreatZabD
namespace Go.Proofs.YtkidhbflojlmoaaGreat
open Go.RowKit

abbrev PhaT : TypeId := 43
theorem first_drew {w w' : World} {n : Nat} (h : Below n w w') : Below n w w'.drew := h.drew
def startedB (n : Nd) : Bool := (n.is != 1) && (n.step == 3)
def phaseV (n : Nd) : Value := .agg #[.int .i64 n.is, .int .i64 n.leader, .bool (startedB n), .int .i64 n.commit.1, .int .i64 n.commit.2]
set_option maxRecDepth 100000 in
set_option maxHeartbeats 4000000 in
theorem phase_any (g : Nat) (n : Nd) (w : World) (h : NodeAt g n w) :
    Calls Tryz.prog 10 #[ptrV g] w fun e w' => e = .returned (phaseV n) ∧ Below w.heap.size w w' := by
  have c8 : w.cell? ⟨g, 8, none⟩ = some (.int .i64 n.is) := h.cell (by rfl)
  have c9 : w.cell? ⟨g, 9, none⟩ = some (.int .i64 n.leader) := h.cell (by rfl)
  have c10 : w.cell? ⟨g, 10, none⟩ = some (.int .i64 n.step) := h.cell (by rfl)
  have c12 : w.cell? ⟨g, 12, none⟩ = some (.int .i64 n.commit.1) := h.cell (by rfl)
  have c13 : w.cell? ⟨g, 13, none⟩ = some (.int .i64 n.commit.2) := h.cell (by rfl)
  have hlt : g < w.heap.size := BlkAt.lt h
  have HB := Lib.hid (fun o => alloc_below w o)
  have HZ := Lib.hid (BlkAt.alloc_new w [.int .i64 0, .int .i64 0, .bool false, .int .i64 0, .int .i64 0] PhaT)
  unfold ptrV phaseV startedB
  generalize n.is = is at *
  generalize n.leader = ld at *
  generalize n.step = st at *
  generalize n.commit = z at *
  clear h
  go_enter Tryz.func10, Tryz.ntmps10
  go_wp2_with (fail)
  by_cases h1 : is = 1
  · subst h1
    have e1 : ((1 : Int) != 1) = false := rfl
    go_region
    go_wp2
    exact bodyPost_ret (v := .agg #[.int .i64 1, .int .i64 ld, .bool false, .int .i64 z.1, .int .i64 z.2]) (by simp [results, Tryz.results10, go_sem]) rfl ⟨rfl, first_drew (HB.out _)⟩
  · have e1 : (is != 1) = true := bne_iff_ne.2 h1
    go_region
    go_wp2
    exact bodyPost_ret (v := .agg #[.int .i64 is, .int .i64 ld, .bool (st == 3), .int .i64 z.1, .int .i64 z.2]) (by simp [results, Tryz.results10, go_sem]) rfl ⟨by rw [e1]; rfl, first_drew (HB.out _)⟩
end Go.Proofs.YtkidhbflojlmoaaGreat
