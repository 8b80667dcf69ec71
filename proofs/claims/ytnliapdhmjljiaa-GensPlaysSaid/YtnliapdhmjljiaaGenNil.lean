/- The law GensNil, walked. Conditions: as each theorem says. -/
import Derived.Test.YtnliapdhmjljiaaGenG
namespace Go.Proofs.Ytnliapdhmjljiaa
open Go.RowKit

set_option maxRecDepth 100000 in
theorem at_nil (rev : Int) (w : World) : Calls Try.prog 16 #[.pointer none, .int .i64 rev] w fun e w' => e = .returned (.tuple #[.agg #[.int .i64 0, .int .i64 0, .int .i64 0], .bool false]) ∧ Below w.heap.size w w' := by
  have hb := (((Below.refl _ w).alloc (Nat.le_refl _) (.cells #[.int .i64 rev] 3)).alloc (by simp) (.cells #[.int .i64 0, .int .i64 0, .int .i64 0] SeenT)).alloc (by simp; omega) (.cells #[.bool false] 4)
  have HB := Lib.hid hb
  have b1 := (BlkAt.alloc_new (w.alloc (.cells #[.int .i64 rev] 3)) [.int .i64 0, .int .i64 0, .int .i64 0] SeenT).grew (alloc_below _ (.cells #[.bool false] 4))
  have b2 := BlkAt.alloc_new ((w.alloc (.cells #[.int .i64 rev] 3)).alloc (.cells #[.int .i64 0, .int .i64 0, .int .i64 0] SeenT)) [.bool false] 4
  simp only [World.size_alloc] at b1 b2
  have R1 := Lib.hid b1
  have R2 := Lib.hid b2
  clear hb b1 b2
  go_enter Try.func16, Try.ntmps16
  go_wp2
  exact bodyPost_ret (at_results 0 0 0 false _ _ _ _ rfl rfl R1.out R2.out) rfl ⟨rfl, HB.out⟩
theorem since_nil (rev : Int) (w : World) : Calls Try.prog 18 #[.pointer none, .int .i64 rev] w fun e w' => e = .returned (.slice none 0 0) ∧ w' = w := by
  go_enter Try.func18, Try.ntmps18
  go_wp2
  go_ret
  exact ⟨rfl, rfl⟩
theorem compact_nil (rev : Int) (w : World) : Calls Try.prog 23 #[.pointer none, .int .i64 rev] w fun e w' => e = .returned (.bool false) ∧ Below w.heap.size w w' := by
  go_enter Try.func23, Try.ntmps23
  go_wp2
  go_ret
  exact ⟨rfl, alloc_below w _⟩
set_option maxRecDepth 100000 in
set_option maxHeartbeats 1000000 in
theorem gensNil_walk (W : World) (a0 : Int) (w0 : (Lit.int .i64 a0).wf = true) :
    Calls Try.prog 8 #[.int .i64 a0] W fun e w' => e = .returned (.bool true) ∧ Below W.heap.size W w' := by
  clear w0
  have HA := Lib.hid (fun w => at_nil a0 w)
  have HP := Lib.hid (fun w => Put_nil a0 w)
  have HT := Lib.hid (fun w => Tombstone_nil a0 w)
  have HS := Lib.hid (fun w => since_nil a0 w)
  have HL := Lib.hid (fun w => last_nil w)
  have HC := Lib.hid (fun w => compact_nil a0 w)
  have HW := Lib.hid (fun w => awake_any w)
  go_enter Try.func8, Try.ntmps8
  go_wp2_with (
    first
    | (go_at_call 16; (with_reducible refine (HA.out _).mono ?_); rintro e w1 ⟨rfl, b1⟩; have B1 := b1.trans ((alloc_below w1 (.cells #[.int .i64 0, .int .i64 0, .int .i64 0] SeenT)).mono b1.size); have x1 := BlkAt.cell (BlkAt.alloc_new w1 [.int .i64 0, .int .i64 0, .int .i64 0] SeenT) (i := 1) rfl; clear b1)
    | (go_at_call 25; (with_reducible refine (HP.out _).mono ?_); rintro e w2 ⟨rfl, rfl⟩)
    | (go_at_call 24; (with_reducible refine (HT.out _).mono ?_); rintro e w3 ⟨rfl, rfl⟩)
    | (go_at_call 18; (with_reducible refine (HS.out _).mono ?_); rintro e w4 ⟨rfl, rfl⟩)
    | (go_at_call 15; (with_reducible refine (HL.out _).mono ?_); rintro e w5 ⟨rfl, rfl⟩)
    | (go_at_call 23; (with_reducible refine (HC.out _).mono ?_); rintro e w6 ⟨rfl, b6⟩)
    | (go_at_call 21; (with_reducible refine (HW.out _).mono ?_); rintro e w7 ⟨rfl, b7⟩))
  go_ret
  exact ⟨rfl, (B1.trans (b6.mono B1.size)).trans (b7.mono (Nat.le_trans B1.size b6.size))⟩
end Go.Proofs.Ytnliapdhmjljiaa
