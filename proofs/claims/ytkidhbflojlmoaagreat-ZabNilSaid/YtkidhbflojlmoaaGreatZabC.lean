/- The walks of above, outs. Conditions: as each theorem says. -/
import Derived.Test.YtkidhbflojlmoaaGreatZabB
namespace Go.Proofs.YtkidhbflojlmoaaGreat
open Go.RowKit

theorem drn_below (w : World) (nq : Nat) : Below w.heap.size w (w.drewN nq) := ⟨rfl, rfl, rfl, Nat.le_refl _, fun _ _ => rfl⟩
def aboveP (me nodes : Nat) (e : Int) : Int := e + 1 + (((me : Int) - e - 1).tmod (nodes : Int) + (nodes : Int)).tmod (nodes : Int)
theorem tmod_bound (x : Int) (n : Nat) (h : 1 ≤ n) : -(n : Int) < x.tmod (n : Int) ∧ x.tmod (n : Int) < (n : Int) := by
  refine ⟨?_, Int.tmod_lt_of_pos _ (by omega)⟩
  have h1 := Int.tmod_lt_of_pos (-x) (show (0 : Int) < n by omega)
  rw [Int.neg_tmod] at h1
  omega
set_option maxRecDepth 100000 in
set_option maxHeartbeats 1000000 in
theorem above_any (g : Nat) (n : Nd) (hf : n.fit) (e : Int) (h0 : 0 ≤ e) (h1 : e ≤ 4611686018427387904) (w : World) (h : NodeAt g n w) :
    Calls Tryz.prog 98 #[ptrV g, .int .i64 e] w fun r w' => r = .returned (.int .i64 (aboveP n.me n.nodes e)) ∧ Below w.heap.size w w' := by
  have c6 : w.cell? ⟨g, 6, none⟩ = some (.int .i64 (n.me : Int)) := h.cell (by rfl)
  have c7 : w.cell? ⟨g, 7, none⟩ = some (.int .i64 (n.nodes : Int)) := h.cell (by rfl)
  have hlt : g < w.heap.size := BlkAt.lt h
  have hn1 := hf.n1
  have hn7 := hf.n7
  have hme := hf.me
  unfold ptrV aboveP
  generalize n.me = m at *
  generalize n.nodes = N at *
  have a1 : IntKind.i64.wrap (e + 1) = e + 1 := IntWalk.i64_in _ (by omega)
  have a2 : IntKind.i64.wrap ((m : Int) - e) = (m : Int) - e := IntWalk.i64_in _ (by omega)
  have a3 : IntKind.i64.wrap ((m : Int) - e - 1) = (m : Int) - e - 1 := IntWalk.i64_in _ (by omega)
  obtain ⟨t1, t2⟩ := tmod_bound ((m : Int) - e - 1) N hn1
  have a4 : IntKind.i64.wrap (((m : Int) - e - 1).tmod (N : Int)) = ((m : Int) - e - 1).tmod (N : Int) := IntWalk.i64_in _ (by omega)
  generalize hx : ((m : Int) - e - 1).tmod (N : Int) = x at *
  have a5 : IntKind.i64.wrap (x + (N : Int)) = x + (N : Int) := IntWalk.i64_in _ (by omega)
  obtain ⟨t3, t4⟩ := tmod_bound (x + (N : Int)) N hn1
  have a6 : IntKind.i64.wrap ((x + (N : Int)).tmod (N : Int)) = (x + (N : Int)).tmod (N : Int) := IntWalk.i64_in _ (by omega)
  generalize hy : (x + (N : Int)).tmod (N : Int) = y at *
  have a7 : IntKind.i64.wrap (e + 1 + y) = e + 1 + y := IntWalk.i64_in _ (by omega)
  have hN0 : ¬ (N : Int) = 0 := by omega
  have hN1 : ¬ N = 0 := by omega
  clear h hf
  go_enter Tryz.func98, Tryz.ntmps98
  go_wp2_with (fail)
  go_quiet (fail)
  go_wp2
  go_ret
  exact ⟨rfl, drn_below w nq⟩
def nilS : Value := .slice none 0 0
set_option maxRecDepth 100000 in
set_option maxHeartbeats 1000000 in
theorem outs_any (g : Nat) (n : Nd) (hf : n.fit) (a : Option Addr) (l c : Nat) (hv : n.ov = .slice a l c) (w : World) (h : NodeAt g n w) :
    Calls Tryz.prog 33 #[ptrV g] w fun e w' => e = .returned n.ov ∧ NodeAt g { n with ov := nilS } w' ∧ w.grownBy w' (some g) := by
  have c79 : w.cell? ⟨g, 79, none⟩ = some (.slice a l c) := by rw [← hv]; exact h.cell (nd_out n hf.peers)
  have hfz : w.frozen? ⟨g, 79, none⟩ = false := h.frozen 79
  have hS := BlkAt.set h 79 nilS
  rw [nd_setOut n hf.peers] at hS
  have HS := Lib.hid (show NodeAt g { n with ov := nilS } _ from hS)
  have HG := Lib.hid (grown_set w g 79 nilS)
  rw [hv]
  unfold ptrV
  unfold nilS at HG HS ⊢
  clear h hf hS hv
  go_enter Tryz.func33, Tryz.ntmps33
  go_wp2
  go_ret
  exact ⟨rfl, HS.out, HG.out⟩
end Go.Proofs.YtkidhbflojlmoaaGreat
