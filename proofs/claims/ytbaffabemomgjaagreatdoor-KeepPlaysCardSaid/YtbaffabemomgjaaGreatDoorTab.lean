/- The walks of Steps and of Table: what they return; nothing older is changed. Conditions: as each theorem says. -/
import Derived.Test.YtbaffabemomgjaaGreatDoorProg
import Derived.Test.YtbaffabemomgjaaGreatDoorChecked
import Derived.Test.YtbaffabemomgjaaGreatDoorCrc
import Derived.WalkKit
import Derived.WalkSpells
import Derived.WalkLawsBesides
import Derived.Lib.Hide
import Derived.Laws.CopyOwn
import Derived.Lib.ConvBytes
namespace Go.Proofs.YtbaffabemomgjaaGreatDoor
open Go.RowKit

theorem two1 (z : Nat) (h : z < 4294967296) : bits .and .u32 (z : Int) 1 = ((z % 2 : Nat) : Int) := by
  have := u32_and_nat z 1 h (by omega)
  rw [Nat.and_one_is_mod] at this
  exact this
theorem polyx (z : Nat) (h : z < 4294967296) : bits .xor .u32 ((z : Int) / 2) 3988292384 = ((z / 2 ^^^ 3988292384 : Nat) : Int) :=
  u32_xor_nat (z / 2) 3988292384 (by omega) (by omega)

/-- The table, its first k numbers laid. -/
def tabTo (k : Nat) : Array Value := ((List.range 256).map fun i => Value.int .u32 ((if i < k then tab i else 0 : Nat) : Int)).toArray
theorem tabTo_size (k : Nat) : (tabTo k).size = 256 := by simp [tabTo]
theorem tabTo_zero : Array.replicate 256 (Value.int .u32 0) = tabTo 0 := by
  apply Array.ext
  · simp [tabTo]
  · intro i h1 h2; simp [tabTo]
theorem tabTo_set (k : Nat) (h : k < 256) : (tabTo k).setIfInBounds k (.int .u32 (tab k : Nat)) = tabTo (k + 1) := by
  apply Array.ext_getElem?
  intro i
  rw [Array.getElem?_setIfInBounds]
  by_cases hi : i < 256
  · by_cases e : k = i
    · subst e; simp [tabTo, h]
    · have : i < k + 1 ↔ i < k := by omega
      simp [tabTo, hi, e, this]
  · rw [if_neg (by omega)]
    simp [tabTo, hi]
theorem tabTo_at (k i : Nat) (h : i < 256) : (tabTo k)[i]? = some (.int .u32 ((if i < k then tab i else 0 : Nat) : Int)) := by
  simp [tabTo, h]
theorem zero23 (w : World) : (zeroValue 93).run Tryz.prog w = .ok (.agg (Array.replicate 256 (.int .u32 0))) w := by kernel_rfl

theorem info23 : (Tryz.prog.info? 93).map (·.size) = some 256 := by kernel_rfl
theorem stepx (z : Nat) (h : z < 4294967296) : bits .xor .u32 ((z : Int) / 2) (bits .and .u32 3988292384 (-bits .and .u32 (z : Int) 1 % 4294967296)) = ((step z : Nat) : Int) := by
  rw [two1 z h]
  unfold step
  by_cases ho : z % 2 = 1
  · rw [if_pos ho, ho]
    exact polyx z h
  · have h0 : z % 2 = 0 := by omega
    rw [if_neg ho, h0]
    have e : bits .and .u32 3988292384 (-((0 : Nat) : Int) % 4294967296) = 0 := by decide +kernel
    rw [e]
    have := u32_xor_nat (z / 2) 0 (by omega) (by omega)
    rw [Nat.xor_zero] at this
    exact this
set_option maxRecDepth 100000 in
set_option maxHeartbeats 400000 in
theorem table_any (w : World) :
    Calls Tryz.prog 70 #[] w fun e w' => e = .returned (.agg (tabTo 256)) ∧ Below w.heap.size w w' := by
  have hz := zero23
  rw [tabTo_zero] at hz
  go_enter Tryz.func70, Tryz.ntmps70
  go_wp2
  clear hz
  go_loopw [4] (fun i wr => ∃ k : Nat, k ≤ 256 ∧ i = .int .i64 k ∧ wr = (w.alloc (.cells (tabTo 0) 93)).alloc (.cells (tabTo k) 93)) (fun i _ => 256 - (intOf i).toNat)
  case atStart => exact ⟨0, Nat.zero_le _, rfl, rfl⟩
  case round =>
    obtain ⟨k, hk, rfl, rfl⟩ := hrel
    by_cases hlt : k < 256
    · go_wp2
      go_loop [3, 9] (fun n i => ∃ (j : Nat), j ≤ 8 ∧ i = .int .i64 j ∧ n = .int .u32 (steps k j)) (fun _ i => 8 - (intOf i).toNat)
      case atStart => exact ⟨0, Nat.zero_le _, rfl, rfl⟩
      case round =>
        obtain ⟨j, hj, rfl, rfl⟩ := hrel
        have hz := steps_lt k j (by omega)
        by_cases hjl : j < 8
        · have H := Lib.hid (stepx (steps k j) hz)
          go_wp2
          go_round
          case rel => exact ⟨j + 1, by omega, by go_num, by rw [H.out]; rfl⟩
          case measure => simp [intOf]; omega
        · obtain rfl : j = 8 := by omega
          have hc : (tabTo k)[k]? = some (.int .u32 0) := by rw [tabTo_at k k hlt]; simp
          have H := Lib.hid (tabTo_set k hlt)
          go_wp2
          go_roundw
          case rel => exact ⟨k + 1, by omega, by go_num, by rw [← H.out]; rfl⟩
          case measure => simp [intOf]; omega
    · obtain rfl : k = 256 := by omega
      have hg1 : ((w.alloc (.cells (tabTo 0) 93)).alloc (.cells (tabTo 256) 93)).heap[w.heap.size + 1]? = some (.cells (tabTo 256) 93) := heap_alloc2_new _ _ _
      have hg0 : ((w.alloc (.cells (tabTo 0) 93)).alloc (.cells (tabTo 256) 93)).heap[w.heap.size]? = some (.cells (tabTo 0) 93) := heap_alloc2_old _ _ _
      have hs0 : (tabTo 0).size = (tabTo 256).size := by rw [tabTo_size, tabTo_size]
      have ha : (tabTo 256).all (·.oneCell') = true := by simp [tabTo, Value.oneCell']
      have hi2 : (Tryz.prog.info? 93).map (·.size) = some (tabTo 256).size := by rw [tabTo_size]; exact info23
      go_wp2_with (first | (refine wpList_load_row rfl 93 (.tmp 1) rfl _ rfl 93 (tabTo 256) (0, 0) _ hg1 Tryz.underlying93 rfl hi2 ?_) | (refine wpList_store_row rfl 93 (.tmp 0) (.tmp 23) rfl w.heap.size (tabTo 256) rfl rfl 93 (tabTo 0) hg0 hi2 hs0 ha ?_))
      refine bodyPost_ret (results_cell_row rfl _ _ w.heap.size 93 (tabTo 256) (0, 0) _ rfl (setRow_heap _ _ _ _ _ _ hg0) Tryz.underlying93 rfl hi2) rfl ⟨rfl, ?_⟩
      exact below_setRow (((Below.refl _ _).alloc (Nat.le_refl _) _).alloc (by simp) _) (Nat.le_refl _) _
end Go.Proofs.YtbaffabemomgjaaGreatDoor
