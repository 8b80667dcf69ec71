/- The walks of the tests of peers, last, above, outs, State, Phase. Conditions: as each theorem says. -/
import Derived.Test.YtkidhbflojlmoaaGreatZabA
import Derived.Test.YtkidhbflojlmoaaGreatHistEl
namespace Go.Proofs.YtkidhbflojlmoaaGreat
open Go.RowKit

section
variable {g : Nat} {n : Nd} {w : World}
/-- A test that reads one cell of its peer. -/
theorem tests_cell (fk : Nat) (j : Nat) (hj : j < 9) (P : Peer → Bool) (hE : Enters Tryz.prog fk) (hP : ∀ p, (peerCells p)[j]? = some (.bool (P p)))
    (hC : ∀ (i : Int) (o : Nat) (b : Bool) (W : World), W.cell? ⟨g, o + j, none⟩ = some (.bool b) → Calls Tryz.prog fk #[.int .i64 i, .pointer (some ⟨g, o, none⟩)] W fun e w' => e = .returned (.bool b) ∧ Below W.heap.size W w')
    (h : NodeAt g n w) (hf : n.fit) : Tests fk #[] g n.nodes (fun i => P (n.peers.getD i peer0)) w := by
  refine ⟨hE, fun i hi W hB => ?_⟩
  have hl : i < n.peers.length := by rw [hf.peers]; have := hf.n7; omega
  have hx : n.peers.getD i peer0 = n.peers[i] := by simp [List.getD, hl]
  show Calls Tryz.prog fk _ W fun e w'' => e = .returned (.bool (P (n.peers.getD i peer0))) ∧ _
  rw [hx]
  exact hC _ _ _ W (NodeAt.peer (BlkAt.grew h hB) i j hl hj _ (hP _))
set_option maxRecDepth 100000 in
theorem on1_any (i : Int) (g o : Nat) (b : Bool) (w : World) (h : w.cell? ⟨g, o + 0, none⟩ = some (.bool b)) : Calls Tryz.prog 97 #[.int .i64 i, .pointer (some ⟨g, o, none⟩)] w fun e w' => e = .returned (.bool b) ∧ Below w.heap.size w w' := by
  rw [Nat.add_zero] at h
  go_enter Tryz.func97, Tryz.ntmps97
  go_wp2
  go_ret
  exact ⟨rfl, Below.refl _ _⟩
set_option maxRecDepth 100000 in
theorem on3_any (i : Int) (g o : Nat) (b : Bool) (w : World) (h : w.cell? ⟨g, o + 2, none⟩ = some (.bool b)) : Calls Tryz.prog 100 #[.int .i64 i, .pointer (some ⟨g, o, none⟩)] w fun e w' => e = .returned (.bool b) ∧ Below w.heap.size w w' := by
  go_enter Tryz.func100, Tryz.ntmps100
  go_wp2
  go_ret
  exact ⟨rfl, Below.refl _ _⟩
set_option maxRecDepth 100000 in
theorem on4_any (i : Int) (g o : Nat) (b : Bool) (w : World) (h : w.cell? ⟨g, o + 4, none⟩ = some (.bool b)) : Calls Tryz.prog 101 #[.int .i64 i, .pointer (some ⟨g, o, none⟩)] w fun e w' => e = .returned (.bool b) ∧ Below w.heap.size w w' := by
  go_enter Tryz.func101, Tryz.ntmps101
  go_wp2
  go_ret
  exact ⟨rfl, Below.refl _ _⟩
theorem tests1 (h : NodeAt g n w) (hf : n.fit) : Tests 97 #[] g n.nodes (fun i => (n.peers.getD i peer0).hello) w :=
  tests_cell _ 0 (by omega) Peer.hello (enters_of Tryz.func97 (by kernel_rfl) rfl) (fun _ => rfl) (fun i o b W hc => on1_any i g o b W hc) h hf
theorem tests3 (h : NodeAt g n w) (hf : n.fit) : Tests 100 #[] g n.nodes (fun i => (n.peers.getD i peer0).agreed) w :=
  tests_cell _ 2 (by omega) Peer.agreed (enters_of Tryz.func100 (by kernel_rfl) rfl) (fun _ => rfl) (fun i o b W hc => on3_any i g o b W hc) h hf
theorem tests4 (h : NodeAt g n w) (hf : n.fit) : Tests 101 #[] g n.nodes (fun i => (n.peers.getD i peer0).ready) w :=
  tests_cell _ 4 (by omega) Peer.ready (enters_of Tryz.func101 (by kernel_rfl) rfl) (fun _ => rfl) (fun i o b W hc => on4_any i g o b W hc) h hf
end
def halfB (n : Nd) (P : Peer → Bool) : Bool := decide (n.nodes / 2 < countP n.nodes fun i => P (n.peers.getD i peer0))
theorem bel_set {w0 w : World} (h : Below w0.heap.size w0 w) {g : Nat} (hg : w0.heap.size ≤ g) (i : Nat) (x : Value) : Below w0.heap.size w0 (w.setCell ⟨g, i, none⟩ x) :=
  h.grown (grown_set w g i x) h.size (by intro k hk; simp only [Option.some.injEq] at hk; omega)
/-- A log in memory. -/
def LogOf (v : Value) (L : List Ent) (w : World) : Prop := ∃ a cap, v = .slice a L.length cap ∧ EntsAt w v L ∧ L.length ≤ 1000000 ∧ L.length ≤ cap
abbrev LogAt (n : Nd) (L : List Ent) (w : World) : Prop := LogOf n.lv L w
set_option maxRecDepth 100000 in
set_option maxHeartbeats 1000000 in
theorem last_any (g : Nat) (n : Nd) (L : List Ent) (w : World) (h : NodeAt g n w) (hL : LogAt n L w) :
    Calls Tryz.prog 28 #[ptrV g] w fun e w' => e = .returned (zxidV (lastN n L)) ∧ Below w.heap.size w w' := by
  obtain ⟨a, cap, hv, hE, hn, _⟩ := hL
  have c5 : w.cell? ⟨g, 5, none⟩ = some (.slice a L.length cap) := by rw [← hv]; exact h.cell (by rfl)
  have c2 : w.cell? ⟨g, 2, none⟩ = some (.int .i64 n.beg.1) := h.cell (by rfl)
  have c3 : w.cell? ⟨g, 3, none⟩ = some (.int .i64 n.beg.2) := h.cell (by rfl)
  have hlt : g < w.heap.size := BlkAt.lt h
  rw [hv] at hE
  have HE := Lib.hid hE
  have HH := Lib.hid (fun W (hB : Below w.heap.size w W) => hlast_any L a cap W (EntsAt.grew hE hB) (by omega))
  have HB := Lib.hid (fun o => alloc_below w o)
  unfold ptrV zxidV lastN
  unfold zxidV at HH
  clear h hE hv
  by_cases h0 : L = []
  · subst h0
    rw [if_pos rfl]
    have e0 : ((([] : List Ent).length : Int) == 0) = true := rfl
    go_enter Tryz.func28, Tryz.ntmps28
    go_wp2
    exact bodyPost_ret (v := .agg #[.int .i64 n.beg.1, .int .i64 n.beg.2]) (by simp [results, Tryz.results28, go_sem]) rfl ⟨rfl, HB.out _⟩
  · rw [if_neg h0]
    have hl : 0 < L.length := List.length_pos_iff.2 h0
    have e0 : ((L.length : Int) == 0) = false := beq_eq_false_iff_ne.2 (by omega)
    generalize lastZ L = z at *
    clear h0
    go_enter Tryz.func28, Tryz.ntmps28
    have HZ := Lib.hid (BlkAt.alloc_new w [.int .i64 0, .int .i64 0] 41)
    go_wp2_with (go_at_call 54; (with_reducible refine (HH.out _ (HB.out _)).mono ?_); go_loud (rintro e w1 ⟨rfl, hb1⟩; have hz := BlkAt.grew HZ.out hb1; have z0 := hz.cell (i := 0) rfl; have z1 := hz.cell (i := 1) rfl; have zf0 := hz.frozen 0; have zf1 := hz.frozen 1; have hB1 := Lib.hid ((HB.out (.cells #[.int .i64 0, .int .i64 0] 41)).trans (hb1.mono (HB.out _).size)); have HZ1 := Lib.hid hz; clear hz hb1))
    have hS1 := Lib.hid (bel_set hB1.out (Nat.le_refl _) 0 (.int .i64 z.1))
    have hS2 := Lib.hid (bel_set hS1.out (Nat.le_refl _) 1 (.int .i64 z.2))
    have q1 := BlkAt.set HZ1.out 0 (.int .i64 z.1)
    have q2 := BlkAt.set q1 1 (.int .i64 z.2)
    have r0 := q1.cell (i := 0) (v := .int .i64 z.1) rfl
    have r1 := q2.cell (i := 1) (v := .int .i64 z.2) rfl
    clear q1 q2
    exact bodyPost_ret (v := .agg #[.int .i64 z.1, .int .i64 z.2]) (by simp [results, Tryz.results28, go_sem, r0, r1]) rfl ⟨rfl, hS2.out⟩
end Go.Proofs.YtkidhbflojlmoaaGreat
