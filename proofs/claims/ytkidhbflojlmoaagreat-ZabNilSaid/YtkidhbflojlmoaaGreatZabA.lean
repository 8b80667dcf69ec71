/- The walks of count and half. Conditions: as each theorem says. -/
import Derived.Test.YtkidhbflojlmoaaGreatZabP
import Derived.Shelf.Abstract
namespace Go.Proofs.YtkidhbflojlmoaaGreat
open Go.RowKit

def countP (n : Nat) (P : Nat → Bool) : Nat := ((List.range n).filter P).length
theorem countP_zero (P : Nat → Bool) : countP 0 P = 0 := rfl
theorem countP_succ (n : Nat) (P : Nat → Bool) : countP (n + 1) P = countP n P + if P n = true then 1 else 0 := by
  unfold countP
  rw [List.range_succ, List.filter_append, List.length_append]
  congr 1
  simp only [List.filter_cons, List.filter_nil]
  split <;> rfl
theorem countP_le (P : Nat → Bool) : ∀ n, countP n P ≤ n
  | 0 => Nat.le_refl _
  | n + 1 => by
    have := countP_le P n
    rw [countP_succ]
    split <;> omega
/-- What a test of a peer says. -/
def Tests (fk : Nat) (caps : Array Value) (g : Nat) (n : Nat) (P : Nat → Bool) (w : World) : Prop :=
  Enters Tryz.prog fk ∧ ∀ i, i < n → ∀ w', Below w.heap.size w w' → Calls Tryz.prog fk (#[.int .i64 (i : Int), .pointer (some ⟨g, 16 + i * 9, none⟩)] ++ caps) w' fun e w'' => e = .returned (.bool (P i)) ∧ Below w'.heap.size w' w''
set_option maxRecDepth 100000 in
set_option maxHeartbeats 1000000 in
theorem count_any (g : Nat) (n : Nd) (hf : n.fit) (fk : Nat) (caps : Array Value) (P : Nat → Bool) (w : World) (h : NodeAt g n w) (hT : Tests fk caps g n.nodes P w) :
    Calls Tryz.prog 81 #[ptrV g, .func (.func fk) #[] caps] w fun e w' => e = .returned (.int .i64 (countP n.nodes P : Int)) ∧ Below w.heap.size w w' := by
  have c7 : w.cell? ⟨g, 7, none⟩ = some (.int .i64 (n.nodes : Int)) := h.cell (by rfl)
  have h7 := hf.n7
  have HT := Lib.hid hT.2
  have hE : ∀ (args : Array Value) (W : World), (callFunc fk args).run Tryz.prog W = .ok (.enter fk args) W := hT.1
  obtain ⟨N, hN⟩ : ∃ N, N = n.nodes := ⟨_, rfl⟩
  rw [← hN] at c7 h7 ⊢
  have HN := Lib.hid hN
  unfold ptrV
  clear h hf hT hN
  go_enter Tryz.func81, Tryz.ntmps81
  go_wp2
  go_loopg [5, 11] N (fun gk v5 v11 wr => ∃ i : Nat, v11 = .int .i64 (i : Int) ∧ v5 = .int .i64 (countP i P : Int) ∧ i + gk = N ∧ Hid (Below w.heap.size w wr))
  case atStart => exact ⟨0, rfl, rfl, by omega, Lib.hid (Below.refl _ _)⟩
  case round =>
    obtain ⟨i, rfl, rfl, hi, HB⟩ := hrel
    by_cases hlt : i < N
    · have hil : (i : Int) < (N : Int) := by omega
      have hi7 : (i : Int) < 7 := by omega
      have hc := countP_le P i
      have HC := Lib.hid (HT.out i (by rw [← HN.out]; exact hlt) wr HB.out)
      have hs := countP_succ i P
      cases hp : P i with
      | true =>
        rw [hp] at HC
        rw [hp, if_pos rfl] at hs
        have hw : IntKind.i64.wrap ((countP i P : Int) + 1) = (countP i P : Int) + 1 := IntWalk.i64_in _ (by omega)
        have HS := Lib.hid hs
        clear hs hp
        go_wp2_with ((with_reducible refine HC.out.mono ?_); rintro e w2 ⟨rfl, hb2⟩)
        have HB2 := Lib.hid (HB.out.trans (hb2.mono HB.out.size))
        go_roundg (gk - 1)
        case rel => exact ⟨i + 1, by go_num, by rw [HS.out]; go_num, by omega, HB2⟩
        case measure => omega
      | false =>
        rw [hp] at HC
        rw [hp, if_neg (by decide), Nat.add_zero] at hs
        have HS := Lib.hid hs
        clear hs hp
        go_wp2_with ((with_reducible refine HC.out.mono ?_); rintro e w2 ⟨rfl, hb2⟩)
        have HB2 := Lib.hid (HB.out.trans (hb2.mono HB.out.size))
        go_roundg (gk - 1)
        case rel => exact ⟨i + 1, by go_num, by rw [HS.out]; rfl, by omega, HB2⟩
        case measure => omega
    · obtain rfl : i = N := by omega
      go_wp2
      go_ret
      exact ⟨rfl, HB.out⟩
set_option maxRecDepth 100000 in
theorem half_any (g : Nat) (n : Nd) (hf : n.fit) (fk : Nat) (caps : Array Value) (P : Nat → Bool) (w : World) (h : NodeAt g n w) (hT : Tests fk caps g n.nodes P w) :
    Calls Tryz.prog 56 #[ptrV g, .func (.func fk) #[] caps] w fun e w' => e = .returned (.bool (decide (n.nodes / 2 < countP n.nodes P))) ∧ Below w.heap.size w w' := by
  have c7 : w.cell? ⟨g, 7, none⟩ = some (.int .i64 (n.nodes : Int)) := h.cell (by rfl)
  have h7 := hf.n7
  have HC := Lib.hid (fun W (hB : Below w.heap.size w W) => count_any g n hf fk caps P W (BlkAt.grew h hB) ⟨hT.1, fun i hi w' hb => hT.2 i hi w' (hB.trans (hb.mono hB.size))⟩)
  have hlt : g < w.heap.size := BlkAt.lt h
  have hd : (n.nodes : Int).tdiv 2 = ((n.nodes / 2 : Nat) : Int) := by rw [Int.tdiv_eq_ediv_of_nonneg (by omega)]; omega
  have hle := countP_le P n.nodes
  unfold ptrV at HC ⊢
  obtain ⟨N, hN⟩ : ∃ N, N = n.nodes := ⟨_, rfl⟩
  obtain ⟨K, hK⟩ : ∃ K, K = countP n.nodes P := ⟨_, rfl⟩
  rw [← hK] at HC hle ⊢
  rw [← hN] at c7 h7 hd hle ⊢
  have hqN : N / 2 ≤ 7 := by omega
  generalize N / 2 = q at *
  have hw : IntKind.i64.wrap (q : Int) = (q : Int) := IntWalk.i64_in _ (by omega)
  clear h hf hT hN hK
  go_enter Tryz.func56, Tryz.ntmps56
  go_wp2_with (fail)
  go_region_with (go_at_call 81; (with_reducible refine (HC.out _ (by first | exact Below.refl _ _ | exact (Below.refl _ _).drew)).mono ?_); rintro e w2 ⟨rfl, hb2⟩; have c7b : w2.cell? ⟨g, 7, none⟩ = some (.int .i64 (N : Int)) := Grew.cell hb2 c7)
  all_goals
    go_wp2
    go_ret
    refine ⟨rfl, ?_⟩
    first | exact hb2 | exact ((Below.refl _ w).drew).trans hb2
end Go.Proofs.YtkidhbflojlmoaaGreat
