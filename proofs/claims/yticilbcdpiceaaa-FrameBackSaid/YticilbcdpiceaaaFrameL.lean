/- The walks of the chapter's examples and of the laws FrameLays and FrameFinds. Conditions: none. -/
import Derived.Test.YticilbcdpiceaaaSame
namespace Go.Proofs.Yticilbcdpiceaaa
open Go.RowKit

theorem recs_len (f : Nat) : ∀ l, (recs f l).1.length ≤ f := by
  induction f with
  | zero => intro l; simp [recs]
  | succ f ih =>
    intro l
    unfold recs
    split
    · simp
    · split
      · have := ih (l.drop (nUsed l)); simp; omega
      · simp
theorem frame_a : frameL [97] = [1, 0, 0, 0, 67, 190, 183, 232, 97] := by decide +kernel
theorem frame_one (w : World) : Calls Try.prog 21 #[.string ⟨#[97]⟩] w fun e w' => e = .returned (.tuple #[.string ⟨#[1, 0, 0, 0, 67, 190, 183, 232, 97]⟩, .int .i64 0]) ∧ Below w.heap.size w w' :=
  (frame_good ⟨#[97]⟩ (by decide) (by decide) w).mono fun e w' ⟨he, hb⟩ => ⟨by rw [he]; exact congrArg (fun l : List UInt8 => Ending.returned (.tuple #[.string ⟨l.toArray⟩, .int .i64 0])) frame_a, hb⟩
theorem next_none (w : World) : Calls Try.prog 23 #[.string ⟨#[]⟩] w fun e w' => e = .returned (.tuple #[.string ⟨#[]⟩, .int .i64 0, .int .i64 10]) ∧ Below w.heap.size w w' :=
  (next_any ⟨#[]⟩ (by decide) w).mono fun e w' h => h

set_option maxHeartbeats 400000 in
theorem awake4 (w : World) : Calls Try.prog 20 #[] w fun e w' => e = .returned (.bool true) ∧ Below w.heap.size w w' := by
  go_enter Try.func20, Try.ntmps20
  go_wp2_with fail
  refine (frame_one _).mono ?_
  rintro e w1 ⟨rfl, hb1⟩
  go_wp2_with fail
  refine (next_none _).mono ?_
  rintro e w2 ⟨rfl, hb2⟩
  go_wp2
  go_ret
  exact ⟨rfl, hb1.trans (hb2.mono hb1.size)⟩

set_option maxRecDepth 100000 in
set_option maxHeartbeats 400000 in
theorem frameLays_walk (s : ByteArray) (hs : s.size ≤ maxLen) (w : World) : Calls Try.prog 8 #[.string s] w fun e w' => e = .returned (.bool true) ∧ Below w.heap.size w w' := by
  have hs' := hs
  unfold maxLen at hs'
  by_cases h : 70000 < s.size
  · go_enter Try.func8, Try.ntmps8
    go_wp2_with fail
    refine (awake4 _).mono ?_
    rintro e w1 ⟨rfl, hb1⟩
    go_wp2
    go_ret
    exact ⟨rfl, hb1⟩
  by_cases h0 : s.size = 0
  · obtain rfl := isNone s h0
    go_enter Try.func8, Try.ntmps8
    go_wp2_with fail
    refine (frame_none _).mono ?_
    rintro e w1 ⟨rfl, rfl⟩
    go_wp2_with fail
    refine (refframe_none _).mono ?_
    rintro e w1 ⟨rfl, rfl⟩
    go_wp2_with fail
    refine (awake4 _).mono ?_
    rintro e w1 ⟨rfl, hb1⟩
    go_wp2
    go_ret
    exact ⟨rfl, hb1⟩
  by_cases h1 : 65536 < s.size
  · go_enter Try.func8, Try.ntmps8
    go_wp2_with fail
    refine (frame_big s hs h1 _).mono ?_
    rintro e w1 ⟨rfl, rfl⟩
    go_wp2_with fail
    refine (refframe_big s hs h1 _).mono ?_
    rintro e w1 ⟨rfl, rfl⟩
    go_wp2_with fail
    refine (awake4 _).mono ?_
    rintro e w1 ⟨rfl, hb1⟩
    go_wp2
    go_ret
    exact ⟨rfl, hb1⟩
  · go_enter Try.func8, Try.ntmps8
    go_wp2_with fail
    refine (frame_good s (by omega) (by omega) _).mono ?_
    rintro e w1 ⟨rfl, hb1⟩
    go_wp2_with fail
    refine (refframe_good s (by omega) (by omega) _).mono ?_
    rintro e w2 ⟨rfl, hb2⟩
    go_wp2_with fail
    refine (awake4 _).mono ?_
    rintro e w3 ⟨rfl, hb3⟩
    go_wp2
    go_ret
    have b2 := hb1.trans (hb2.mono hb1.size)
    exact ⟨rfl, b2.trans (hb3.mono b2.size)⟩

set_option maxRecDepth 100000 in
set_option maxHeartbeats 400000 in
theorem frameFinds_walk (s : ByteArray) (hs : s.size ≤ maxLen) (w : World) : Calls Try.prog 11 #[.string s] w fun e w' => e = .returned (.bool true) ∧ Below w.heap.size w w' := by
  have hs' := hs
  unfold maxLen at hs'
  by_cases h : 20000 < s.size
  · go_enter Try.func11, Try.ntmps11
    go_wp2_with fail
    refine (awake4 _).mono ?_
    rintro e w1 ⟨rfl, hb1⟩
    go_wp2
    go_ret
    exact ⟨rfl, hb1⟩
  · have hinv : (allL s.data.toList).1.length ≤ maxLen := by
      have h1 := recs_len s.data.toList.length s.data.toList
      have h2 : s.data.toList.length = s.size := rfl
      unfold allL maxLen
      omega
    go_enter Try.func11, Try.ntmps11
    go_wp2_with fail
    refine (next_any s hs _).mono ?_
    rintro e w1 ⟨rfl, hb1⟩
    go_wp2_with fail
    refine (refnext_any s hs _).mono ?_
    rintro e w2 ⟨rfl, hb2⟩
    generalize nBody s.data.toList = b at *
    generalize nUsed s.data.toList = u at *
    generalize nErr s.data.toList = c at *
    go_wp2_with fail
    refine (all_any s (by omega) _).mono ?_
    rintro e w3 hN
    obtain ⟨v1, rfl, hb3, ho1⟩ := hN
    go_wp2_with fail
    refine (refall_any s (by omega) _).mono ?_
    rintro e w4 hN
    obtain ⟨v2, rfl, hb4, ho2⟩ := hN
    have hS1 := Lib.hid ((strs_own ho1).grew hb4)
    have hS2 := Lib.hid (strs_own ho2)
    clear ho1 ho2
    generalize (allL s.data.toList).2.1 = p at *
    generalize (allL s.data.toList).2.2 = q at *
    generalize (allL s.data.toList).1 = D at *
    have hsame := Lib.hid (same_any v1 v2 (D.map fun b => ⟨b.toArray⟩) (D.map fun b => ⟨b.toArray⟩) w4 hS1.out hS2.out (by simpa using hinv) (by simpa using hinv))
    go_wp2_with fail
    refine hsame.out.mono ?_
    rintro e w5 ⟨rfl, hb5⟩
    rw [show sameB (D.map fun b => ⟨b.toArray⟩) (D.map fun b => ⟨b.toArray⟩) = true from decide_eq_true rfl]
    go_wp2_with fail
    refine (awake4 _).mono ?_
    rintro e w6 ⟨rfl, hb6⟩
    go_wp2
    go_ret
    have b2 := hb1.trans (hb2.mono hb1.size)
    have b3 := b2.trans (hb3.mono b2.size)
    have b4 := b3.trans (hb4.mono b3.size)
    have b5 := b4.trans (hb5.mono b4.size)
    exact ⟨rfl, b5.trans (hb6.mono b5.size)⟩
end Go.Proofs.Yticilbcdpiceaaa
