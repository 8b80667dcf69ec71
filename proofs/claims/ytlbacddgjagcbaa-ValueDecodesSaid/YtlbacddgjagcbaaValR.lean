/- IsVote. Conditions: as each theorem says. -/
import Derived.Test.YtlbacddgjagcbaaValQ
namespace Go.Proofs.Ytlbacddgjagcbaa
open Go.RowKit

/-- What IsVote answers at a message that is no Vote. -/
def NoVoteSaid (w : World) (e : Ending) (w' : World) : Prop := e = .returned (.tuple #[voteV 0 (0, 0) 0 0 0, .bool false]) ∧ Below w.heap.size w w'
set_option maxRecDepth 100000 in
theorem isVote_yes (l : Int) (z : Int × Int) (p r s : Int) (w : World) : Calls Try.prog 44 #[.iface 65 (voteV l z p r s)] w fun e w' => e = .returned (.tuple #[voteV l z p r s, .bool true]) ∧ Below w.heap.size w w' := by
  obtain ⟨z1, z2⟩ := z
  unfold voteV
  have HB : Hid (∀ o1 o2, Below w.heap.size w ((w.alloc o1).alloc o2)) := fun o1 o2 => ((Below.refl _ w).alloc (Nat.le_refl _) _).alloc (by simp) _
  have y1 := yes_vote (.agg #[.int .i64 l, .int .i64 z1, .int .i64 z2, .int .i64 p, .int .i64 r, .int .i64 s])
  go_enter Try.func44, Try.ntmps44
  go_wp2
  exact bodyPost_ret (v := .tuple #[.agg #[.int .i64 l, .int .i64 z1, .int .i64 z2, .int .i64 p, .int .i64 r, .int .i64 s], .bool true]) (by simp [results, Try.results44, go_sem]) rfl ⟨rfl, HB.out _ _⟩
set_option maxRecDepth 100000 in
theorem isVote_no (T : TypeId) (hT : T ≠ 65) (v : Value) (w : World) : Calls Try.prog 44 #[.iface T v] w fun e w' => NoVoteSaid w e w' := by
  unfold NoVoteSaid voteV
  have HB : Hid (∀ o1 o2, Below w.heap.size w ((w.alloc o1).alloc o2)) := fun o1 o2 => ((Below.refl _ w).alloc (Nat.le_refl _) _).alloc (by simp) _
  have y1 := no_vote T hT v
  go_enter Try.func44, Try.ntmps44
  go_wp2
  exact bodyPost_ret (v := .tuple #[.agg #[.int .i64 0, .int .i64 0, .int .i64 0, .int .i64 0, .int .i64 0, .int .i64 0], .bool false]) (by simp [results, Try.results44, go_sem]) rfl ⟨rfl, HB.out _ _⟩
set_option maxRecDepth 100000 in
theorem isVote_nil (w : World) : Calls Try.prog 44 #[.nilIface] w fun e w' => NoVoteSaid w e w' := by
  unfold NoVoteSaid voteV
  have HB : Hid (∀ o1 o2, Below w.heap.size w ((w.alloc o1).alloc o2)) := fun o1 o2 => ((Below.refl _ w).alloc (Nat.le_refl _) _).alloc (by simp) _
  have y1 := nil_vote
  go_enter Try.func44, Try.ntmps44
  go_wp2
  exact bodyPost_ret (v := .tuple #[.agg #[.int .i64 0, .int .i64 0, .int .i64 0, .int .i64 0, .int .i64 0, .int .i64 0], .bool false]) (by simp [results, Try.results44, go_sem]) rfl ⟨rfl, HB.out _ _⟩
end Go.Proofs.Ytlbacddgjagcbaa
