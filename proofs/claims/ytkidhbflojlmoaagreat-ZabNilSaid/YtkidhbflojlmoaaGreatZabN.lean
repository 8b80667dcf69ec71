/- slices.Backward over a log: its contract, for every loop body that keeps what lay. Conditions: as each theorem says. -/
import Derived.Test.YtkidhbflojlmoaaGreatZabM
import Derived.Test.YtkidhbflojlmoaaGreatRound
namespace Go.Proofs.YtkidhbflojlmoaaGreat
open Go.RowKit Go.Shelf
attribute [local go_sem] Oper.semAt_some

/-- What has come of n entries when k rounds are over: the last k, the last one first. -/
def backL (n k : Nat) : List (Fin n) := (List.range k).filterMap fun j => if h : n - 1 - j < n then some ⟨n - 1 - j, h⟩ else none
theorem backL_succ (n k : Nat) (hk : k < n) : backL n (k + 1) = backL n k ++ [⟨n - 1 - k, by omega⟩] := by
  unfold backL
  rw [List.range_succ, List.filterMap_append]
  congr 1
  simp [show n - 1 - k < n by omega]
theorem backL_length (n : Nat) : ∀ k, k ≤ n → (backL n k).length = k := by
  intro k
  induction k with
  | zero => intro _; rfl
  | succ k ih => intro h; rw [backL_succ n k (by omega), List.length_append, ih (by omega)]; rfl
theorem backL_mem (n k : Nat) (hk : k ≤ n) (i : Fin n) : i ∈ backL n k ↔ n ≤ i.1 + k := by
  induction k with
  | zero => simp [backL]
  | succ k ih =>
    rw [backL_succ n k (by omega), List.mem_append, ih (by omega)]
    simp only [List.mem_singleton]
    constructor
    · rintro (h | rfl)
      · omega
      · simp; omega
    · intro h
      by_cases e : n ≤ i.1 + k
      · exact .inl e
      · right; apply Fin.ext; simp; omega
theorem Backward_any (a : Option Addr) (n c : Nat) (w : World) : Calls Tryz.prog 55 #[.slice a n c] w fun e w' => e = .returned (.func (.func 80) #[] #[.pointer (some ⟨w.heap.size, 0, none⟩)]) ∧ w' = w.alloc (.cells #[.slice a n c] EnsT) := by
  go_enter Tryz.func55, Tryz.ntmps55
  go_wp2
  go_ret
  exact ⟨rfl, rfl⟩
set_option maxRecDepth 100000 in
set_option maxHeartbeats 2000000 in
theorem back1 (n : Nat) (hn : 1 ≤ n) (l Bs n₀ g off m cap : Nat) (a : Option Addr) (G : Fin m → Ent) (hm : m ≤ 1000000) (hb : 0 < m → g < n₀) (hBn : Bs < n₀) (ha : 0 < m → a = some ⟨g, off, none⟩) (J Jx : List (Fin m) → World → Prop)
    (hY : ∀ pre (x : Fin m) W, J pre W → pre.length < m → YieldAt Fence.wide (n - 1) Tryz.prog l #[.int .i64 (x.1 : Int), entV (G x)] W fun e W' =>
      (e = .returned (.bool true) ∧ J (pre ++ [x]) W' ∧ Below n₀ W W') ∨ (e = .returned (.bool false) ∧ Jx (pre ++ [x]) W'))
    (W : World) (hBs : W.cell? ⟨Bs, 0, none⟩ = some (.slice a m cap))
    (hc : ∀ i (h : i < m), EntCells W g (off + i * 3) (G ⟨i, h⟩)) (h0 : J [] W) :
    CallsIn Fence.wide n Tryz.prog 80 #[.func (.yield l) #[] #[], .pointer (some ⟨Bs, 0, none⟩)] W fun e W' => (∃ v, e = .returned v) ∧
      ((∃ ys, ys = backL m m ∧ J ys W') ∨ (∃ pre, (∃ k, k ≤ m ∧ pre = backL m k) ∧ Jx pre W')) := by
  have HC := Lib.hid hc
  have HY := Lib.hid hY
  have HA := Lib.hid ha
  have HB := Lib.hid hb
  have H0 := Lib.hid h0
  clear hc hY ha hb h0
  refine callsIn_of_wp Tryz.func80 rfl trivial ?_ rfl
  simp only [Tryz.ntmps80, List.size_toArray, List.length_cons, List.length_nil, Nat.reduceAdd, Nat.reduceSub, Array.replicate_succ, Array.replicate_zero, List.push_toArray, List.append_toArray, List.nil_append, List.cons_append]
  gi_wp2
  gi_loopw [3] (fun i wr => ∃ k : Nat, k ≤ m ∧ i = .int .i64 ((m : Int) - 1 - k) ∧ J (backL m k) wr ∧ Below n₀ W wr)
    (fun i _ => (intOf i + 1).toNat)
  case atStart => exact ⟨0, Nat.zero_le _, by simp, H0.out, Below.refl _ _⟩
  case round =>
    obtain ⟨k, hk, rfl, hJs, hnx⟩ := hrel
    have hBs' := (hnx.cell (p := ⟨Bs, 0, none⟩) hBn).trans hBs
    by_cases hlt : k < m
    · obtain rfl := HA.out (by omega)
      have hgn := HB.out (by omega)
      have hx : m - 1 - k < m := by omega
      obtain ⟨c0, c1, c2⟩ := HC.out (m - 1 - k) hx
      have d0 := (hnx.cell (p := ⟨g, off + (m - 1 - k) * 3, none⟩) hgn).trans c0
      have d1 := (hnx.cell (p := ⟨g, off + (m - 1 - k) * 3 + 1, none⟩) hgn).trans c1
      have d2 := (hnx.cell (p := ⟨g, off + (m - 1 - k) * 3 + 2, none⟩) hgn).trans c2
      have HS : Hid (backL m (k + 1) = backL m k ++ [⟨m - 1 - k, hx⟩]) := Lib.hid (backL_succ m k hlt)
      have hY := HY.out (backL m k) ⟨m - 1 - k, hx⟩ wr hJs (by rw [backL_length m k hk]; exact hlt)
      have hnat : (m : Int) - 1 - (k : Int) = ((m - 1 - k : Nat) : Int) := by omega
      rw [hnat]
      have hk1 : ((m - 1 - k : Nat) : Int) - 1 = (m : Int) - 1 - ((k + 1 : Nat) : Int) := by omega
      have HK1 := Lib.hid hk1
      clear hk1 hnat c0 c1 c2
      have hxx : Hid ((m - 1 - k : Nat) + k + 1 = m) := Lib.hid (by omega)
      generalize m - 1 - k = x at *
      unfold entV at hY
      generalize (G ⟨x, hx⟩) = gn at *
      obtain ⟨fn, tmps, assign, body, hy, hR⟩ := hY
      dsimp only at hy
      have t0 : decide ((0 : Int) ≤ (x : Int)) = true := decide_eq_true (by omega)
      clear HY HC
      gi_wp2
      refine hR.mono ?_
      rintro e W3 (⟨rfl, hJ3, hk3⟩ | ⟨rfl, hJx3⟩)
      · gi_wp2
        go_roundw
        case rel => exact ⟨k + 1, by omega, by rw [HK1.out], by rw [HS.out]; exact hJ3, hnx.trans hk3⟩
        case measure => simp [intOf]
      · gi_wp2
        refine bodyPost_ret (results_none rfl _ _ _) rfl ?_
        exact ⟨⟨_, rfl⟩, .inr ⟨_, ⟨k + 1, by omega, HS.out.symm⟩, hJx3⟩⟩
    · obtain rfl : k = m := by omega
      have e : (k : Int) - 1 - (k : Int) = -1 := by omega
      rw [e]
      gi_wp2
      go_end0
      exact ⟨⟨_, rfl⟩, .inl ⟨_, rfl, hJs⟩⟩
theorem back_stops (n : Nat) (hn : 1 ≤ n) (Bs g off m cap : Nat) (a : Option Addr) (G : Fin m → Ent) (hm : m ≤ 1000000) (w : World) (hb : 0 < m → g < w.heap.size) (hBn : Bs < w.heap.size) (ha : 0 < m → a = some ⟨g, off, none⟩)
    (hBs : w.cell? ⟨Bs, 0, none⟩ = some (.slice a m cap))
    (hc : ∀ i (h : i < m), EntCells w g (off + i * 3) (G ⟨i, h⟩)) :
    SeqStopsK Fence.wide n Tryz.prog 80 #[.pointer (some ⟨Bs, 0, none⟩)] (fun x : Fin m => #[.int .i64 (x.1 : Int), entV (G x)]) (Below w.heap.size) (fun ys => ys = backL m m) (fun pre => ∃ k, k ≤ m ∧ pre = backL m k) m w :=
  fun l J Jx W hW _ _ hY h0 => by
    refine back1 n hn l Bs w.heap.size g off m cap a G hm hb hBn ha J Jx hY W ((hW.cell (p := ⟨Bs, 0, none⟩) hBn).trans hBs) (fun i h => ?_) h0
    exact EntCells.grew (hc i h) hW
theorem keepsFrom_below {B : Nat} {W W' : World} (h : Below W.heap.size W W') : KeepsFrom B W W' := ⟨h.size, fun k o _ hk _ => (h.block k (Array.getElem?_eq_some_iff.1 hk).1).trans hk⟩
end Go.Proofs.YtkidhbflojlmoaaGreat
