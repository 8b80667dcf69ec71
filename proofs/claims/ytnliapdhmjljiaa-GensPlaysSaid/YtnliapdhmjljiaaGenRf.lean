/- same. Conditions: as each theorem says. -/
import Derived.Test.YtnliapdhmjljiaaGenRe
namespace Go.Proofs.Ytnliapdhmjljiaa
open Go.RowKit

def pairC (c : Ch) : Int × Bool := (c.rev, c.gone)
set_option maxRecDepth 100000 in
set_option maxHeartbeats 2000000 in
theorem same_any (M : List Ch) (u v : Value) (w : World) (h1 : RowsAt 2 chgCells w u (M.map pairC)) (h2 : RowsAt 4 refCells w v M) (hl : M.length ≤ 100000) :
    Calls Try.prog 19 #[u, v] w fun e w' => e = .returned (.bool true) ∧ Below w.heap.size w w' := by
  obtain ⟨a, ca, rfl, _⟩ := id h1
  obtain ⟨b, cb, rfl, _⟩ := id h2
  have H1 := Lib.hid h1
  have H2 := Lib.hid h2
  have HG : Hid (∀ i (hi : i < M.length), (M.map pairC)[i]'(by simpa using hi) = (M[i].rev, M[i].gone)) := Lib.hid (fun i hi => by simp [pairC])
  have hlm : (M.map pairC).length = M.length := by simp
  clear h1 h2
  simp only [hlm] at H1 ⊢
  clear hlm
  go_enter Try.func19, Try.ntmps19
  go_wp2_with (fail)
  go_loopw [5] (fun iv W => ∃ k : Nat, k ≤ M.length ∧ iv = .int .i64 (k : Int) ∧ Below w.heap.size w W) (fun iv _ => M.length - (intOf iv).toNat)
  case atStart => exact ⟨0, Nat.zero_le _, rfl, Below.refl _ _⟩
  case round =>
    obtain ⟨k, hk, rfl, hB⟩ := hrel
    by_cases hlt : k < M.length
    · obtain ⟨ba, offa, rfl, z0, z1⟩ := chg_get (H1.out.grew hB) k (by simpa using hlt)
      obtain ⟨bb, offb, rfl, x0, x1, x2, x3⟩ := ref_get (H2.out.grew hB) k hlt
      have hg := HG.out k hlt
      rw [hg] at z0 z1
      have dk : decide (k < M.length) = true := decide_eq_true hlt
      have hsz := hB.size
      have HB := Lib.hid hB
      clear hg HG H1 H2 hB
      simp only at z0 z1
      generalize M[k] = y at *
      go_wp2_with (fail)
      go_quiet (fail)
      go_wp2
      go_roundw
      case rel => exact ⟨k + 1, hlt, by go_num, HB.out.trans ((below_drew _ _).mono hsz)⟩
      case measure => simp [intOf]; omega
    · obtain rfl : k = M.length := by omega
      have HB := Lib.hid hB
      clear hB
      go_wp2
      go_ret
      exact ⟨rfl, HB.out⟩
end Go.Proofs.Ytnliapdhmjljiaa
