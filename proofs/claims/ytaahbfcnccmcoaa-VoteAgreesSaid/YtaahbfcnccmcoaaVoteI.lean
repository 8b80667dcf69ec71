/- The walk of the votes' example, and the law VoteNil. Conditions: as each theorem says. -/
import Derived.Test.YtaahbfcnccmcoaaVoteH
import Derived.Lib.SmallJoins
namespace Go.Proofs.Ytaahbfcnccmcoaa
open Go.RowKit

def exP : Poll := newP 0 3 ⟨0, 0, 0, 1⟩
def exV : Vot := ⟨⟨1, 0, 0, 2⟩, 0, 1⟩
theorem ex_fit : exP.fit := new_fit 0 3 _ (by omega) (by omega) (by omega)
theorem ex_step : (stepP exP 1 exV).2 = 2 := by decide +kernel
theorem ex_won : wonP (stepP exP 1 exV).1 = (1, true) := by decide +kernel
theorem ex_noOne : noOne (stepP exP 1 exV).1 := by
  have h : ∀ d ∈ (stepP exP 1 exV).1.dec, d.2 = 0 := by decide +kernel
  exact fun i hi => h _ (List.getElem_mem hi)
set_option maxRecDepth 100000 in
set_option maxHeartbeats 800000 in
theorem vawake_any (w : World) : Calls Try.prog 27 #[] w fun e w' => e = .returned (.bool true) ∧ Below w.heap.size w w' := by
  have HNew : Hid (∀ W, Calls Try.prog 26 #[.int .i64 0, .int .i64 3, .agg #[.int .i64 0, .int .i64 0], .int .i64 1] W fun e w' => ∃ g, e = .returned (.tuple #[ptrV g, .int .i64 0]) ∧ W.heap.size ≤ g ∧ PollAt g exP w' ∧ Below W.heap.size W w') :=
    fun W => new_any 0 3 (0, 0) 1 (by omega) (by omega) (by omega) (by omega) (by simp) (by simp) W
  have HTake := Lib.hid (fun g W hW => take_any g exP ex_fit 1 exV W hW)
  have HWon := Lib.hid (fun g W hW => won_any g (stepP exP 1 exV).1 (step_fit _ _ _ ex_fit) ex_noOne W hW)
  rw [ex_step] at HTake
  rw [ex_won] at HWon
  unfold ptrV at HNew HTake HWon
  unfold votV exV at HTake
  simp only at HTake HWon
  go_enter Try.func27, Try.ntmps27
  go_wp2_with (fail)
  refine (HNew.out _).mono ?_
  rintro e w1 ⟨g, rfl, hg, hP1, hb1⟩
  have HP1 := Lib.hid hP1
  clear hP1
  go_wp2_with (fail)
  refine (HTake.out g _ HP1.out).mono ?_
  rintro e w2 ⟨rfl, hP2, hG2⟩
  have hb2 := hb1.grown hG2 hb1.size (by intro k hk; simp only [Option.some.injEq] at hk; omega)
  have HP2 := Lib.hid hP2
  clear hP2 hG2
  go_wp2_with (fail)
  refine (HWon.out g _ HP2.out).mono ?_
  rintro e w3 ⟨rfl, hb3⟩
  go_wp2
  go_ret
  exact ⟨rfl, hb2.trans (hb3.mono hb2.size)⟩
set_option maxRecDepth 100000 in
theorem won_nil (w : World) : Calls Try.prog 30 #[.pointer none] w fun e w' => e = .returned (.tuple #[.int .i64 0, .bool false]) ∧ w' = w := by
  go_enter Try.func30, Try.ntmps30
  go_wp2
  go_ret2
  exact ⟨rfl, rfl⟩
/-- What is known of a vote that came in. -/
def IsVot (v : Value) : Prop := ∃ x : Vot, v = votV x
set_option maxRecDepth 100000 in
set_option maxHeartbeats 800000 in
theorem nil_any (n : Int) (v : Vot) (w : World) : Calls Try.prog 10 #[.int .i64 n, votV v] w fun e w' => e = .returned (.bool true) ∧ Below w.heap.size w w' := by
  have HT := Lib.hid (fun W => take_nil n v W)
  have HV := Lib.hid (fun W => voteM_nil W)
  have hb1 := Lib.hid (alloc_below w)
  unfold votV at HT HV ⊢
  unfold zeroBal at HV
  simp only at HV
  go_enter Try.func10, Try.ntmps10
  go_wp2_with (fail)
  refine (begin_nil _).mono ?_
  rintro e w' ⟨rfl, rfl⟩
  go_wp2_with (fail)
  refine (won_nil _).mono ?_
  rintro e w' ⟨rfl, rfl⟩
  go_wp2_with (fail)
  refine (HT.out _).mono ?_
  rintro e w1 ⟨rfl, hB1⟩
  have B1 := (hb1.out _).trans (hB1.mono (by simp))
  clear hB1
  go_wp2_with (fail)
  refine (HV.out _).mono ?_
  rintro e w2 ⟨rfl, hB2⟩
  have B2 := B1.trans (hB2.mono B1.size)
  clear hB2
  go_wp2_with (fail)
  refine (vawake_any _).mono ?_
  rintro e w3 ⟨rfl, hB3⟩
  go_wp2
  go_ret
  exact ⟨rfl, B2.trans (hB3.mono B2.size)⟩
end Go.Proofs.Ytaahbfcnccmcoaa
