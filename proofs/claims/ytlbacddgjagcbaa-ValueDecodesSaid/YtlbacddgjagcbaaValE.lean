/- awake of chapter 08. Conditions: as each theorem says. -/
import Derived.Test.YtlbacddgjagcbaaValD
namespace Go.Proofs.Ytlbacddgjagcbaa
open Go.RowKit

theorem numsWake : numsL [5, flagI true, 1, 2] = [10, 2, 2, 4] := by decide
set_option maxRecDepth 100000 in
theorem wake_any (w : World) : Calls Try.prog 35 #[] w fun e w' => e = .returned (.bool true) ∧ Below w.heap.size w w' := by
  have HE := Lib.hid (fun X => encode_ack true (1, 2) (by decide) ⟨by decide, by decide⟩ ⟨by decide, by decide⟩ X)
  have HI := Lib.hid (fun X => encode_int 7 X)
  have HP := Lib.hid (fun X => panics_yes (.iface 94 (.agg #[.bool false, .int .i64 0, .int .i64 0])) X (fun Y => must_no 94 _ (by decide) Y))
  rw [numsWake] at HE
  unfold EncSaid at HE HI
  simp only [ackV] at HE
  have hs : ((bs [10, 2, 2, 4]).toList == [10, 2, 2, 4]) = true := by rw [bs_toList]; rfl
  go_enter Try.func35, Try.ntmps35
  go_wp2_with (fail)
  refine (HE.out _).mono ?_
  rintro e w1 ⟨rfl, hb1⟩
  go_wp2_with (fail)
  refine (HI.out _).mono ?_
  rintro e w2 ⟨rfl, hb2⟩
  go_wp2_with (fail)
  refine (HP.out _).mono ?_
  rintro e w3 ⟨rfl, hb3⟩
  go_wp2
  go_ret
  exact ⟨rfl, hb1.trans ((hb2.trans (hb3.mono hb2.size)).mono hb1.size)⟩
end Go.Proofs.Ytlbacddgjagcbaa
