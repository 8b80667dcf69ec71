/- The walk of New. Conditions: as each theorem says. -/
import Derived.Test.YtkidhbflojlmoaaGreatVoteB
namespace Go.Proofs.YtkidhbflojlmoaaGreat
open Go.RowKit

def rawP (me nodes : Nat) (own : Bal) : Poll := ⟨me, nodes, own, 0, zeroBal, noTold, noDec⟩
def newP (me nodes : Nat) (own : Bal) : Poll := freshP (rawP me nodes own) 0
theorem raw_fit (me nodes : Nat) (own : Bal) (h1 : 1 ≤ nodes) (h7 : nodes ≤ 7) (hm : me < nodes) : (rawP me nodes own).fit := ⟨h1, h7, hm, rfl, rfl⟩
theorem new_fit (me nodes : Nat) (own : Bal) (h1 : 1 ≤ nodes) (h7 : nodes ≤ 7) (hm : me < nodes) : (newP me nodes own).fit := fresh_fit _ _ (raw_fit me nodes own h1 h7 hm)
theorem raw_at (w : World) (me nodes : Nat) (own : Bal) : PollAt w.heap.size (rawP me nodes own) (w.alloc (.cells (pollCells (rawP me nodes own)).toArray 139)) := heap_alloc_new w _
theorem raw_at2 (w : World) (o : Obj) (me nodes : Nat) (own : Bal) : PollAt (w.heap.size + 1) (rawP me nodes own) ((w.alloc o).alloc (.cells (pollCells (rawP me nodes own)).toArray 139)) := by
  have h := raw_at (w.alloc o) me nodes own
  have e : (w.alloc o).heap.size = w.heap.size + 1 := by simp
  rw [e] at h
  exact h
set_option maxRecDepth 100000 in
set_option maxHeartbeats 800000 in
theorem new_any (me nodes : Nat) (z : Int × Int) (ep : Int) (h1 : 1 ≤ nodes) (h7 : nodes ≤ 7) (hm : me < nodes) (he : 0 ≤ ep) (hz1 : 0 ≤ z.1) (hz2 : 0 ≤ z.2) (w : World) :
    Calls Tryz.prog 49 #[.int .i64 (me : Int), .int .i64 (nodes : Int), .agg #[.int .i64 z.1, .int .i64 z.2], .int .i64 ep] w fun e w' => ∃ g, e = .returned (.tuple #[ptrV g, .int .i64 0]) ∧ w.heap.size ≤ g ∧ PollAt g (newP me nodes ⟨me, z.1, z.2, ep⟩) w' ∧ Below w.heap.size w w' := by
  have HFr := Lib.hid (fun g W hW => fresh_any g (rawP me nodes ⟨me, z.1, z.2, ep⟩) (raw_fit me nodes _ h1 h7 hm) 0 W hW)
  unfold ptrV at HFr ⊢
  go_enter Tryz.func49, Tryz.ntmps49
  go_wp2_with (fail)
  all_goals
    refine (HFr.out (w.heap.size + 1) _ (by exact raw_at2 w _ me nodes ⟨me, z.1, z.2, ep⟩)).mono ?_
    rintro e w1 ⟨rfl, hP1, hG1⟩
    have hs := hG1.size
    simp at hs
    have hB := Lib.hid ((((Below.refl _ w).alloc (Nat.le_refl _) (.cells #[.int .i64 z.1, .int .i64 z.2] 41)).alloc (by simp) (.cells (pollCells (rawP me nodes ⟨me, z.1, z.2, ep⟩)).toArray 139)).grown hG1 (by simp; omega) (by intro k hk; simp only [Option.some.injEq] at hk; omega))
    have HP1 := Lib.hid hP1
    clear hP1 hG1 hs
    go_wp2
    go_ret2
    exact ⟨w.heap.size + 1, rfl, by omega, HP1.out, hB.out⟩
/-- What New refuses. -/
def badNew (me nodes : Int) (z : Int × Int) (ep : Int) : Prop := nodes < 1 ∨ 7 < nodes ∨ me < 0 ∨ nodes ≤ me ∨ ep < 0 ∨ z.1 < 0 ∨ z.2 < 0
set_option maxRecDepth 100000 in
set_option maxHeartbeats 800000 in
theorem new_bad (me nodes : Int) (z : Int × Int) (ep : Int) (hb : badNew me nodes z ep) (w : World) :
    Calls Tryz.prog 49 #[.int .i64 me, .int .i64 nodes, .agg #[.int .i64 z.1, .int .i64 z.2], .int .i64 ep] w fun e w' => e = .returned (.tuple #[.pointer none, .int .i64 1]) ∧ Below w.heap.size w w' := by
  unfold badNew at hb
  have HB := Lib.hid (alloc_below w)
  by_cases h1 : nodes < 1
  · as_aux_lemma =>
    clear hb
    go_enter Tryz.func49, Tryz.ntmps49
    go_wp2
    go_ret2
    exact ⟨rfl, HB.out _⟩
  by_cases h2 : 7 < nodes
  · as_aux_lemma =>
    clear hb
    go_enter Tryz.func49, Tryz.ntmps49
    go_wp2
    go_ret2
    exact ⟨rfl, HB.out _⟩
  by_cases h3 : me < 0
  · as_aux_lemma =>
    clear hb
    go_enter Tryz.func49, Tryz.ntmps49
    go_wp2
    go_ret2
    exact ⟨rfl, HB.out _⟩
  by_cases h4 : nodes ≤ me
  · as_aux_lemma =>
    clear hb
    go_enter Tryz.func49, Tryz.ntmps49
    go_wp2
    go_ret2
    exact ⟨rfl, HB.out _⟩
  have hb2 : ep < 0 ∨ z.1 < 0 ∨ z.2 < 0 := by omega
  as_aux_lemma =>
  clear hb
  rcases hb2 with h5 | h5 | h5
  all_goals
    go_enter Tryz.func49, Tryz.ntmps49
    go_wp2
    all_goals
      go_ret2
      exact ⟨rfl, HB.out _⟩
end Go.Proofs.YtkidhbflojlmoaaGreat
