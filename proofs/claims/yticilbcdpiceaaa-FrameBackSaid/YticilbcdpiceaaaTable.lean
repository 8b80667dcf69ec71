/- Proved here: the chapter's examples of the sums hold; and the statement SumsTable, for every byte, with no condition. -/
import Derived.Test.YticilbcdpiceaaaSum
import Derived.ProofKit
import Derived.OpenShut
import Derived.Deep.QuietTactic
import Derived.BigQuiet
import Derived.Deep.RegionWith
import Derived.Deep.RegionHeld3
namespace Go.Proofs.Yticilbcdpiceaaa
open Go.RowKit

theorem sum_nine (w : World) : Calls Try.prog 16 #[.string ⟨#[49, 50, 51, 52, 53, 54, 55, 56, 57]⟩] w fun e w' => e = .returned (.int .u32 3421780262) ∧ Below w.heap.size w w' :=
  (sum_any ⟨#[49, 50, 51, 52, 53, 54, 55, 56, 57]⟩ (by decide) w).mono fun e w' ⟨he, hb⟩ => ⟨by rw [he]; exact congrArg (fun n : Nat => Ending.returned (.int .u32 (n : Int))) crc_awake, hb⟩
theorem sum_none (w : World) : Calls Try.prog 16 #[.string ⟨#[]⟩] w fun e w' => e = .returned (.int .u32 0) ∧ Below w.heap.size w w' :=
  (sum_any ⟨#[]⟩ (by decide) w).mono fun e w' ⟨he, hb⟩ => ⟨by rw [he]; exact congrArg (fun n : Nat => Ending.returned (.int .u32 (n : Int))) crc_nil, hb⟩

set_option maxHeartbeats 400000 in
theorem awake_any (w : World) : Calls Try.prog 15 #[] w fun e w' => e = .returned (.bool true) ∧ Below w.heap.size w w' := by
  go_enter Try.func15, Try.ntmps15
  go_wp2_with fail
  refine (sum_nine _).mono ?_
  rintro e w1 ⟨rfl, hb1⟩
  go_wp2_with fail
  refine (sum_none _).mono ?_
  rintro e w2 ⟨rfl, hb2⟩
  go_wp2
  go_ret
  exact ⟨rfl, hb1.trans (hb2.mono hb1.size)⟩

theorem index23 (b : Nat) (hb : b < 256) (w : World) : (Instr.index 23 (.agg (tabTo 256)) (.int .u8 b)).run Try.prog w = .ok (.int .u32 (tab b : Nat)) w := by
  have h := tabAt b hb
  simp [Instr.index, go_sem, h]
  intro hh; omega
theorem steps8 (n : Nat) (hn : n < 4294967296) (w : World) : Calls Try.prog 14 #[.int .u32 n, .int .i64 8] w fun e w' => e = .returned (.int .u32 (tab n : Nat)) ∧ w = w' := steps_any n 8 (by omega) hn w
set_option maxRecDepth 100000 in
set_option maxHeartbeats 400000 in
theorem sumsTable_nat (b : Nat) (hb : b < 256) (w : World) : Calls Try.prog 3 #[.int .u8 b] w fun e w' => e = .returned (.bool true) ∧ Below w.heap.size w w' := by
  have hi := index23 b hb
  have hz := steps_lt b 8 (by omega)
  have hm : IntKind.u32.wrap (b : Int) = b := by rw [IntKind.wrap_u32]; omega
  go_enter Try.func3, Try.ntmps3
  go_wp2_with fail
  go_region_with (first
    | (go_at_call 13; with_reducible refine (table_any _).mono ?_; rintro e w1 ⟨rfl, hb1⟩)
    | (go_at_call 14; with_reducible refine (steps8 b (by omega) _).mono ?_; rintro e w2 ⟨rfl, rfl⟩)
    | (go_at_call 15; with_reducible refine (awake_any _).mono ?_; rintro e w3 ⟨rfl, hb3⟩))
  all_goals (go_wp2; go_ret; exact ⟨rfl, (((Below.refl _ w).drew).trans hb1).trans (hb3.mono hb1.size)⟩)
theorem sumsTable_walk (a : Int) (h : (Lit.int .u8 a).wf = true) (w : World) : Calls Try.prog 3 #[.int .u8 a] w fun e w' => e = .returned (.bool true) ∧ Below w.heap.size w w' := by
  obtain ⟨h0, h1⟩ := bounds_u8 h
  obtain ⟨b, rfl⟩ := Int.eq_ofNat_of_zero_le h0
  exact sumsTable_nat b (by omega) w
end Go.Proofs.Yticilbcdpiceaaa
