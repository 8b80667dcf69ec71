/- The walks of sums.Sum, the reference's Sum and Go, and the chapter's examples. Conditions: as each theorem says. -/
import Derived.Test.YtbaffabemomgjaaGreatDoorSgo
namespace Go.Proofs.YtbaffabemomgjaaGreatDoor
open Go.RowKit

theorem inv0 : inv 0 = 4294967295 := rfl
theorem tabAt (i : Nat) (h : i < 256) : (tabTo 256)[i]? = some (.int .u32 (tab i : Nat)) := by rw [tabTo_at 256 i h, if_pos h]
theorem tabLt (i : Nat) (h : i < 256) : tab i < 4294967296 := tab_lt i (by omega)

set_option maxRecDepth 100000 in
set_option maxHeartbeats 400000 in
theorem sum_any (s : ByteArray) (hs : s.size ≤ maxLen) (w : World) :
    Calls Tryz.prog 50 #[.string s] w fun e w' => e = .returned (.int .u32 (crc s.data.toList : Nat)) ∧ Below w.heap.size w w' := by
  go_enter Tryz.func50, Tryz.ntmps50
  go_wp2_with fail
  refine (table_any _).mono ?_
  rintro e w1 ⟨rfl, hb1⟩
  go_wp2_with fail
  refine (go_any (tabTo 256) tab tabAt tabLt 0 (by omega) s hs _).mono ?_
  rintro e w2 ⟨rfl, hb2⟩
  go_wp2
  go_ret
  exact ⟨rfl, hb1.trans (hb2.mono hb1.size)⟩

end Go.Proofs.YtbaffabemomgjaaGreatDoor
