/- The walks of frame.Frame and the reference's Frame. Conditions: as each theorem says. -/
import Derived.Test.YticilbcdpiceaaaLaid
import Derived.Test.YticilbcdpiceaaaSumsW
namespace Go.Proofs.Yticilbcdpiceaaa
open Go.RowKit

/-- A record with its length and its sum. -/
def frameL (b : List UInt8) : List UInt8 := le4 b.length ++ le4 (crc b) ++ b

set_option maxRecDepth 100000 in
set_option maxHeartbeats 400000 in
theorem four_any (n : Nat) (hn : n < 4294967296) (w : World) :
    Calls Try.prog 30 #[.int .u32 n] w fun e w' => e = .returned (.string ⟨(le4 n).toArray⟩) ∧ Below w.heap.size w w' := by
  have hback : (convert 35 9 (.slice (some ⟨w.heap.size, 0, none⟩) 4 4)).run Try.prog (w.alloc (.cells (byteCells (le4 n)).toArray 5)) = .ok (.string ⟨(le4 n).toArray⟩) (w.alloc (.cells (byteCells (le4 n)).toArray 5)) :=
    run_convert_bytes_back (P := Try.prog) _ 35 9 5 ⟨w.heap.size, 0, none⟩ 4 (le4 n) Try.underlying35 Try.underlying5 Try.underlying9 (fun j hj => new_cells w _ 5 j _ (by simp [byteCells, hj]))
  rw [byteCells_le4 n hn] at hback
  go_enter Try.func30, Try.ntmps30
  go_wp2
  go_ret
  exact ⟨rfl, (Below.refl _ w).alloc (Nat.le_refl _) _⟩

set_option maxRecDepth 100000 in
set_option maxHeartbeats 400000 in
theorem frame_none (w : World) : Calls Try.prog 21 #[.string ⟨#[]⟩] w fun e w' => e = .returned (.tuple #[.string ⟨#[]⟩, .int .i64 1]) ∧ w = w' := by
  go_enter Try.func21, Try.ntmps21
  go_wp2
  go_ret2
  exact ⟨rfl, rfl⟩
theorem notEmpty (s : ByteArray) (h : 0 < s.size) : s.toList.isEmpty = false := by
  rw [ByteArray.toList_eq]
  obtain ⟨⟨l⟩⟩ := s
  cases l with
  | nil => exact absurd h (by decide)
  | cons a l => rfl
theorem isNone (s : ByteArray) (h : s.size = 0) : s = ⟨#[]⟩ := by
  obtain ⟨⟨l⟩⟩ := s
  cases l with
  | nil => rfl
  | cons a l => exact absurd h (by show (a :: l).length ≠ 0; simp)
theorem append_mk (l : List UInt8) (s : ByteArray) : (⟨l.toArray⟩ : ByteArray) ++ s = ⟨(l ++ s.data.toList).toArray⟩ := by
  apply ByteArray.ext
  simp
set_option maxRecDepth 100000 in
set_option maxHeartbeats 400000 in
theorem frame_big (s : ByteArray) (hs : s.size ≤ maxLen) (h : 65536 < s.size) (w : World) : Calls Try.prog 21 #[.string s] w fun e w' => e = .returned (.tuple #[.string ⟨#[]⟩, .int .i64 31]) ∧ w = w' := by
  unfold maxLen at hs
  have he := notEmpty s (by omega)
  go_enter Try.func21, Try.ntmps21
  go_wp2
  go_ret2
  exact ⟨rfl, rfl⟩
set_option maxRecDepth 100000 in
set_option maxHeartbeats 400000 in
theorem frame_good (s : ByteArray) (h0 : 0 < s.size) (h : s.size ≤ 65536) (w : World) : Calls Try.prog 21 #[.string s] w fun e w' => e = .returned (.tuple #[.string ⟨(frameL s.data.toList).toArray⟩, .int .i64 0]) ∧ Below w.heap.size w w' := by
  have hm : s.size ≤ maxLen := by unfold maxLen; omega
  have he := notEmpty s (by omega)
  have hc := crc_lt s.data.toList
  go_enter Try.func21, Try.ntmps21
  go_wp2_with fail
  refine (sum_any s hm _).mono ?_
  rintro e w1 ⟨rfl, hb1⟩
  go_wp2_with fail
  refine (laid_any s.size _ (by omega) hc _).mono ?_
  rintro e w2 ⟨rfl, hb2⟩
  have ha := append_mk (le4 s.size ++ le4 (crc s.data.toList)) s
  have hl : (ByteArray.mk (le4 s.size ++ le4 (crc s.data.toList)).toArray).size = 8 := rfl
  go_wp2
  go_ret2
  exact ⟨rfl, hb1.trans (hb2.mono hb1.size)⟩
end Go.Proofs.Yticilbcdpiceaaa
