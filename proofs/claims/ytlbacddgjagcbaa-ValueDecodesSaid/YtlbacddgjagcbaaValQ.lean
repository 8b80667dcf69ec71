/- MustEntry of a Propose, IsVote. Conditions: as each theorem says. -/
import Derived.Test.YtlbacddgjagcbaaValE
namespace Go.Proofs.Ytlbacddgjagcbaa
open Go.RowKit

set_option maxRecDepth 100000 in
theorem must_yes (x : Ent) (w : World) : Calls Try.prog 45 #[.iface 101 (entV x)] w fun e w' => e = .returned (entV x) ∧ Below w.heap.size w w' := by
  have HB : Hid (∀ o, Below w.heap.size w (w.alloc o)) := fun o => alloc_below w o
  unfold entV
  have y1 : ∀ (v : Value) (W : World), (Instr.typeAssert (.iface 101 v) 20 101 false).run Try.prog W = .ok v W := fun v W => by
    simp [Instr.typeAssert, run_underlying (P := Try.prog) Try.underlying101, go_sem]
  have hfd : ∀ W : World, (Instr.field 101 (.agg #[.int .i64 x.e, .int .i64 x.c, .string (bs x.b)]) 0).run Try.prog W = .ok (.agg #[.int .i64 x.e, .int .i64 x.c, .string (bs x.b)]) W := fun W => by
    simp [Instr.field, run_underlying (P := Try.prog) Try.underlying101, asAgg, go_sem]
  go_enter Try.func45, Try.ntmps45
  go_wp2
  exact bodyPost_ret (v := .agg #[.int .i64 x.e, .int .i64 x.c, .string (bs x.b)]) (by simp [results, Try.results45, go_sem]) rfl ⟨rfl, HB.out _⟩
set_option maxRecDepth 100000 in
theorem panics_no (x : Ent) (w : World) : Calls Try.prog 46 #[.iface 101 (entV x)] w fun e w' => e = .returned (.bool false) ∧ Below w.heap.size w w' := by
  have hmf : ∀ (fn : Fn) (first cap : Array Value) (w : World), (Instr.makeFunc fn first cap).run Try.prog w = .ok (.func fn first cap) w := fun _ _ _ _ => rfl
  have HM := Lib.hid (fun X => must_yes x X)
  unfold entV at HM
  unfold entV
  go_enter_defers Try.func46, Try.ntmps46
  go_wp2_with (fail)
  refine (HM.out _).mono ?_
  rintro e w1 ⟨rfl, hb⟩
  have hc : w1.cell? ⟨w.heap.size, 0, none⟩ = some (.bool false) := by rw [hb.cell (by simp)]; simp [go_sem]
  have hz : w1.frozen? ⟨w.heap.size, 0, none⟩ = false := by rw [hb.frozen (by simp)]; simp [go_sem]
  have hB : Below w.heap.size w w1 := ((Below.refl _ w).alloc (Nat.le_refl _) _).trans (hb.mono (by simp))
  have h2 : Below w.heap.size w (w1.setCell ⟨w.heap.size, 0, none⟩ (.bool false)) := hB.setCell (Nat.le_refl _) _
  go_wp2
  refine leaves_cons (f := 63) (args := #[.pointer (some ⟨w.heap.size, 0, none⟩)]) (by simp) (by simp [go_sem]) ?_
  refine (catch_idle ⟨w.heap.size, 0, none⟩ _).mono ?_
  rintro e u' w2 ⟨rfl, rfl, rfl⟩
  simp [Leaves, settle, results, Try.results46, go_sem, hc, hz]
  exact h2
end Go.Proofs.Ytlbacddgjagcbaa
