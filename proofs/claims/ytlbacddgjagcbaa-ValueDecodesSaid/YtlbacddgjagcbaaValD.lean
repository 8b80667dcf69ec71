/- A type assertion that fails; MustEntry, panics. Conditions: as each theorem says. -/
import Derived.Test.YtlbacddgjagcbaaValC
import Derived.Tactics
import Derived.Tactics2
import Derived.Defers
import Derived.Recover
import Derived.Laws.Pointers
namespace Go.Proofs.Ytlbacddgjagcbaa
open Go.RowKit

theorem rtT : Try.prog.rt.typeAssertionError = 15 := by kernel_rfl
theorem assert_panic (t u xT : TypeId) (v : Value) (f : Array Field) (hu : Try.prog.underlying u = some (.struct f)) (ht : t ≠ u) (W : World) :
    ∃ o, (Instr.typeAssert (.iface t v) xT u false).run Try.prog W = .halt (.panic (.iface 15 (.pointer (some ⟨W.heap.size, 0, none⟩)))) (W.alloc o) := by
  have hrt := rtT
  simp [Instr.typeAssert, run_underlying hu, ht, runtimePanic, newVar, elemOf, goPanic, hrt, go_sem]
  exact ⟨_, rfl⟩
theorem assert_panic_nil (u xT : TypeId) (f : Array Field) (hu : Try.prog.underlying u = some (.struct f)) (W : World) :
    ∃ o, (Instr.typeAssert .nilIface xT u false).run Try.prog W = .halt (.panic (.iface 15 (.pointer (some ⟨W.heap.size, 0, none⟩)))) (W.alloc o) := by
  have hrt := rtT
  simp [Instr.typeAssert, run_underlying hu, runtimePanic, newVar, elemOf, goPanic, hrt, go_sem]
  exact ⟨_, rfl⟩
def MustNo (w : World) (e : Ending) (w' : World) : Prop := ∃ p, e = .panicked [{ v := .iface 15 (.pointer (some p)), recovered := false }] ∧ Below w.heap.size w w'
set_option maxRecDepth 100000 in
theorem must_no (t : TypeId) (v : Value) (ht : t ≠ 101) (w : World) : Calls Try.prog 45 #[.iface t v] w fun e w' => MustNo w e w' := by
  have HB : Hid (∀ o1 o2, Below w.heap.size w ((w.alloc o1).alloc o2)) := fun o1 o2 => ((Below.refl _ w).alloc (Nat.le_refl _) _).alloc (by simp) _
  obtain ⟨o, ho⟩ := assert_panic t 101 20 v _ Try.underlying101 ht (w.alloc (.cells #[.int .i64 0, .int .i64 0, .string ⟨#[]⟩] 69))
  rw [show (w.alloc (.cells #[.int .i64 0, .int .i64 0, .string ⟨#[]⟩] 69)).heap.size = w.heap.size + 1 by simp] at ho
  go_enter Try.func45, Try.ntmps45
  go_wp2
  simp only [bodyPost]
  exact ⟨trivial, _, rfl, HB.out _ _⟩
set_option maxRecDepth 100000 in
theorem must_nil (w : World) : Calls Try.prog 45 #[.nilIface] w fun e w' => MustNo w e w' := by
  have HB : Hid (∀ o1 o2, Below w.heap.size w ((w.alloc o1).alloc o2)) := fun o1 o2 => ((Below.refl _ w).alloc (Nat.le_refl _) _).alloc (by simp) _
  obtain ⟨o, ho⟩ := assert_panic_nil 101 20 _ Try.underlying101 (w.alloc (.cells #[.int .i64 0, .int .i64 0, .string ⟨#[]⟩] 69))
  rw [show (w.alloc (.cells #[.int .i64 0, .int .i64 0, .string ⟨#[]⟩] 69)).heap.size = w.heap.size + 1 by simp] at ho
  go_enter Try.func45, Try.ntmps45
  go_wp2
  simp only [bodyPost]
  exact ⟨trivial, _, rfl, HB.out _ _⟩
theorem catch_panicking (p : Addr) (x : Bool) (u : TypeId) (pv : Value) (older : List PanicEntry) (w : World) (hc : w.cell? p = some (.bool x)) (hz : w.frozen? p = false) :
    CallsD Try.prog 63 #[.pointer (some p)] (.panicking ({ v := .iface u pv, recovered := false } :: older)) w fun e u' w' =>
      e = .returned (.tuple #[]) ∧ u' = .panicking ({ v := .iface u pv, recovered := true } :: older) ∧ w' = w.setCell p (.bool true) := by
  refine callsD_of_wpS Try.func63 rfl fun c₀ cs hu => ?_
  apply wpS_seq
  apply wpS_region
  simp [wpOpsS, go_sem, recoverD, hu, Try.ntmps63, Exit.thenS]
  refine wpS_cond (t := true) (by simp [Act.eval, Array.replicate]) ?_
  simp only [if_true]
  apply wpS_region
  simp [wpOpsS, go_sem, hc, hz, bodyPostS, results, Try.results63]
theorem catch_idle (p : Addr) (w : World) :
    CallsD Try.prog 63 #[.pointer (some p)] .returning w fun e u' w' => e = .returned (.tuple #[]) ∧ u' = .returning ∧ w' = w := by
  refine callsD_of_wpS Try.func63 rfl fun c₀ cs hu => ?_
  apply wpS_seq
  apply wpS_region
  simp [wpOpsS, go_sem, recoverD, hu, Try.ntmps63, Exit.thenS]
  refine wpS_cond (t := false) (by simp [Act.eval, Array.replicate]) ?_
  simp only [Bool.false_eq_true, if_false]
  refine wpS_of_wp (wp_skip ?_)
  cases c₀
  simp_all [bodyPostS, results, Try.results63]
set_option maxRecDepth 100000 in
theorem panics_yes (v : Value) (w : World) (h : ∀ X, Calls Try.prog 45 #[v] X fun e w' => MustNo X e w') : Calls Try.prog 46 #[v] w fun e w' => e = .returned (.bool true) ∧ Below w.heap.size w w' := by
  have hmf : ∀ (fn : Fn) (first cap : Array Value) (w : World), (Instr.makeFunc fn first cap).run Try.prog w = .ok (.func fn first cap) w := fun _ _ _ _ => rfl
  have HM := Lib.hid h
  unfold MustNo at HM
  clear h
  go_enter_defers Try.func46, Try.ntmps46
  go_wp2_with (fail)
  refine (HM.out _).mono ?_
  rintro e w1 ⟨p, rfl, hb⟩
  have hc : w1.cell? ⟨w.heap.size, 0, none⟩ = some (.bool false) := by rw [hb.cell (by simp)]; simp [go_sem]
  have hz : w1.frozen? ⟨w.heap.size, 0, none⟩ = false := by rw [hb.frozen (by simp)]; simp [go_sem]
  have hB : Below w.heap.size w w1 := ((Below.refl _ w).alloc (Nat.le_refl _) _).trans (hb.mono (by simp))
  refine leaves_cons (f := 63) (args := #[.pointer (some ⟨w.heap.size, 0, none⟩)]) (by simp) (by simp [go_sem]) ?_
  refine (catch_panicking ⟨w.heap.size, 0, none⟩ false _ _ [] w1 hc hz).mono ?_
  rintro e u' w2 ⟨rfl, rfl, rfl⟩
  have h2 : Below w.heap.size w (w1.setCell ⟨w.heap.size, 0, none⟩ (.bool true)) := hB.setCell (Nat.le_refl _) _
  simp [Leaves, settle, results, Try.results46, go_sem, hc, hz]
  exact h2
end Go.Proofs.Ytlbacddgjagcbaa
