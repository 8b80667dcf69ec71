/- settle's test of a peer. Conditions: as each theorem says. -/
import Derived.Test.YtkidhbflojlmoaaGreatZabL
import Derived.BigQuiet
namespace Go.Proofs.YtkidhbflojlmoaaGreat
open Go.RowKit

/-- What settle asks of a node: is it itself, or has it told that it has the number? -/
def hasP (me : Nat) (z : Int × Int) (i : Nat) (p : Peer) : Bool := decide (i = me) || (p.synced && !lessZ p.acked z)
set_option maxRecDepth 100000 in
set_option maxHeartbeats 2000000 in
theorem settle1_any (i : Nat) (g b c : Nat) (n : Nd) (hl : i < n.peers.length) (x : Ent) (w : World) (h : NodeAt g n w) (hb : w.cell? ⟨b, 0, none⟩ = some (ptrV g)) (hc : EntCells w c 0 x) :
    Calls Tryz.prog 57 #[.int .i64 (i : Int), .pointer (some ⟨g, 16 + i * 9, none⟩), .pointer (some ⟨b, 0, none⟩), .pointer (some ⟨c, 0, none⟩)] w fun e w' => e = .returned (.bool (hasP n.me x.z i n.peers[i])) ∧ Below w.heap.size w w' := by
  have c6 : w.cell? ⟨g, 6, none⟩ = some (.int .i64 (n.me : Int)) := h.cell (by rfl)
  have p3 := NodeAt.peer h i 3 hl (by omega) (.bool n.peers[i].synced) (by rfl)
  have p7 := NodeAt.peer h i 7 hl (by omega) (.int .i64 n.peers[i].acked.1) (by rfl)
  have p8 := NodeAt.peer h i 8 hl (by omega) (.int .i64 n.peers[i].acked.2) (by rfl)
  obtain ⟨e0, e1, e2⟩ := hc
  have e1 : w.cell? ⟨c, 1, none⟩ = some (.int .i64 x.c) := e1
  generalize hp : n.peers[i] = p at *
  have HL : ∀ W, Calls Tryz.prog 26 #[.agg #[.int .i64 p.acked.1, .int .i64 p.acked.2], .agg #[.int .i64 x.e, .int .i64 x.c]] W fun e w' => e = .returned (.bool (lessZ p.acked x.z)) ∧ Below W.heap.size W w' := fun W => less_any p.acked x.z W
  have HL := Lib.hid HL
  unfold ptrV at hb
  unfold hasP
  generalize n.me = m at *
  clear h hp hl n
  obtain ⟨o, ho⟩ : ∃ o, o = 16 + i * 9 := ⟨_, rfl⟩
  rw [← ho] at p3 p7 p8 ⊢
  clear ho
  by_cases him : i = m
  · subst him
    have t0 : ((i : Int) == (i : Int)) = true := beq_self_eq_true _
    rw [show (decide (i = i) || (p.synced && !lessZ p.acked x.z)) = true by simp]
    clear HL
    go_enter Tryz.func57, Tryz.ntmps57
    go_wp2_with (fail)
    go_quiet (fail)
    go_wp2
    go_ret
    exact ⟨rfl, drn_below w nq⟩
  · have t0 : ((i : Int) == (m : Int)) = false := beq_eq_false_iff_ne.2 (by omega)
    rw [decide_eq_false him, Bool.false_or]
    cases hs : p.synced with
    | false =>
      rw [hs] at p3
      rw [Bool.false_and]
      clear HL hs
      go_enter Tryz.func57, Tryz.ntmps57
      go_wp2_with (fail)
      go_quiet (fail)
      go_wp2
      go_ret
      exact ⟨rfl, drn_below w nq⟩
    | true =>
      rw [hs] at p3
      rw [Bool.true_and]
      generalize lessZ p.acked x.z = bl at *
      have HB := Lib.hid (first_drew (Below.refl w.heap.size w))
      clear hs
      go_enter Tryz.func57, Tryz.ntmps57
      go_wp2_with (fail)
      go_region_with (go_at_call 26; (with_reducible refine (HL.out _).mono ?_); rintro e w1 ⟨rfl, hb1⟩)
      all_goals
        go_wp2
        go_ret
        refine ⟨rfl, ?_⟩
        first | exact hb1 | exact HB.out.trans hb1
end Go.Proofs.YtkidhbflojlmoaaGreat
