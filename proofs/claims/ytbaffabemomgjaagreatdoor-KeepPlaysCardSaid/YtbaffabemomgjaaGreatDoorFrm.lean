/- The walks of frame.Frame and the reference's Frame. Conditions: as each theorem says. -/
import Derived.Test.YtbaffabemomgjaaGreatDoorLaid
namespace Go.Proofs.YtbaffabemomgjaaGreatDoor
open Go.RowKit

theorem crc_lt (l : List UInt8) : crc l < 4294967296 := inv_lt _
def frameL (b : List UInt8) : List UInt8 := le4 b.length ++ le4 (crc b) ++ b

set_option maxRecDepth 100000 in
set_option maxHeartbeats 400000 in
theorem frame_none (w : World) : Calls Tryz.prog 24 #[.string ⟨#[]⟩] w fun e w' => e = .returned (.tuple #[.string ⟨#[]⟩, .int .i64 1]) ∧ w = w' := by
  go_enter Tryz.func24, Tryz.ntmps24
  go_wp2
  go_ret2
  exact ⟨rfl, rfl⟩
theorem append_mk (l : List UInt8) (s : ByteArray) : (⟨l.toArray⟩ : ByteArray) ++ s = ⟨(l ++ s.data.toList).toArray⟩ := by
  apply ByteArray.ext
  simp
set_option maxRecDepth 100000 in
set_option maxHeartbeats 400000 in
theorem frame_big (s : ByteArray) (hs : s.size ≤ maxLen) (h : 65536 < s.size) (w : World) : Calls Tryz.prog 24 #[.string s] w fun e w' => e = .returned (.tuple #[.string ⟨#[]⟩, .int .i64 31]) ∧ w = w' := by
  unfold maxLen at hs
  have he := notEmpty s (by omega)
  go_enter Tryz.func24, Tryz.ntmps24
  go_wp2
  go_ret2
  exact ⟨rfl, rfl⟩
set_option maxRecDepth 100000 in
set_option maxHeartbeats 400000 in
theorem frame_good (s : ByteArray) (h0 : 0 < s.size) (h : s.size ≤ 65536) (w : World) : Calls Tryz.prog 24 #[.string s] w fun e w' => e = .returned (.tuple #[.string ⟨(frameL s.data.toList).toArray⟩, .int .i64 0]) ∧ Below w.heap.size w w' := by
  have hm : s.size ≤ maxLen := by unfold maxLen; omega
  have he := notEmpty s (by omega)
  have hc := crc_lt s.data.toList
  go_enter Tryz.func24, Tryz.ntmps24
  go_wp2_with fail
  refine (sum_any s hm _).mono ?_
  rintro e w1 ⟨rfl, hb1⟩
  go_wp2_with fail
  refine (laid_any s.size _ (by omega) hc _).mono ?_
  rintro e w2 ⟨rfl, hb2⟩
  have ha := append_mk (le4 s.size ++ le4 (crc s.data.toList)) s
  have hl : (ByteArray.mk (le4 s.size ++ le4 (crc s.data.toList)).toArray).size = 8 := rfl
  go_wp2
  go_ret2
  exact ⟨rfl, hb1.trans (hb2.mono hb1.size)⟩
end Go.Proofs.YtbaffabemomgjaaGreatDoor
