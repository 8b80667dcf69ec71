/- The walks of the laws SumsSums, SumsGoes and SumsBoth, for every input. Conditions: none. -/
import Derived.Test.YticilbcdpiceaaaTable
namespace Go.Proofs.Yticilbcdpiceaaa
open Go.RowKit

set_option maxRecDepth 100000 in
set_option maxHeartbeats 400000 in
theorem sumsSums_walk (s : ByteArray) (hs : s.size ≤ maxLen) (w : World) : Calls Try.prog 4 #[.string s] w fun e w' => e = .returned (.bool true) ∧ Below w.heap.size w w' := by
  have hs' := hs
  unfold maxLen at hs'
  by_cases h : 20000 < s.size
  · go_enter Try.func4, Try.ntmps4
    go_wp2_with fail
    refine (awake_any _).mono ?_
    rintro e w1 ⟨rfl, hb1⟩
    go_wp2
    go_ret
    exact ⟨rfl, hb1⟩
  · go_enter Try.func4, Try.ntmps4
    go_wp2_with fail
    refine (sum_any s hs _).mono ?_
    rintro e w1 ⟨rfl, hb1⟩
    go_wp2_with fail
    refine (refsum_any s hs _).mono ?_
    rintro e w2 ⟨rfl, rfl⟩
    go_wp2_with fail
    refine (awake_any _).mono ?_
    rintro e w3 ⟨rfl, hb3⟩
    go_wp2
    go_ret
    exact ⟨rfl, hb1.trans (hb3.mono hb1.size)⟩

theorem crc_both (a b : ByteArray) : inv (goL tab (inv (crc a.data.toList)) b.data.toList) = crc (a ++ b).data.toList := by
  rw [ByteArray.data_append, Array.toList_append, crc_append]
theorem crc_lt (l : List UInt8) : crc l < 4294967296 := inv_lt _

set_option maxRecDepth 100000 in
set_option maxHeartbeats 400000 in
theorem sumsBoth_walk (a b : ByteArray) (ha : a.size ≤ maxLen) (hb : b.size ≤ maxLen) (w : World) : Calls Try.prog 6 #[.string a, .string b] w fun e w' => e = .returned (.bool true) ∧ Below w.heap.size w w' := by
  have ha' := ha
  have hb' := hb
  unfold maxLen at ha' hb'
  by_cases h : 20000 < a.size
  · go_enter Try.func6, Try.ntmps6
    go_wp2_with fail
    refine (awake_any _).mono ?_
    rintro e w1 ⟨rfl, hb1⟩
    go_wp2
    go_ret
    exact ⟨rfl, hb1⟩
  · by_cases h2 : 20000 < b.size
    · go_enter Try.func6, Try.ntmps6
      go_wp2_with fail
      refine (awake_any _).mono ?_
      rintro e w1 ⟨rfl, hb1⟩
      go_wp2
      go_ret
      exact ⟨rfl, hb1⟩
    · have hl := crc_lt a.data.toList
      have hab : (a ++ b).size ≤ maxLen := by rw [ByteArray.size_append]; unfold maxLen; omega
      have hq := Lib.hid (crc_both a b)
      go_enter Try.func6, Try.ntmps6
      go_wp2_with fail
      refine (table_any _).mono ?_
      rintro e w1 ⟨rfl, hb1⟩
      go_wp2_with fail
      refine (sum_any a ha _).mono ?_
      rintro e w2 ⟨rfl, hb2⟩
      go_wp2_with fail
      refine (go_any (tabTo 256) tab tabAt tabLt _ hl b hb _).mono ?_
      rintro e w3 ⟨rfl, hb3⟩
      go_wp2_with fail
      refine (sum_any (a ++ b) hab _).mono ?_
      rintro e w4 ⟨rfl, hb4⟩
      rw [hq.out]
      go_wp2_with fail
      refine (awake_any _).mono ?_
      rintro e w5 ⟨rfl, hb5⟩
      go_wp2
      go_ret
      have b12 := hb1.trans (hb2.mono hb1.size)
      have b13 := b12.trans (hb3.mono b12.size)
      have b14 := b13.trans (hb4.mono b13.size)
      exact ⟨rfl, b14.trans (hb5.mono b14.size)⟩

end Go.Proofs.Yticilbcdpiceaaa
