/- The walks of the reference's Right, and of the law KeepTidies. Conditions: as each theorem says. -/
import Derived.Test.YtbaffabemomgjaaGreatDoorKepN
import Derived.Test.YtbaffabemomgjaaGreatDoorKepA
namespace Go.Proofs.YtbaffabemomgjaaGreatDoor
open Go.RowKit

theorem right_take {k : Bys} {j : Nat} (hj : j < k.length) (h : (k.take j).all lowB = true) (hb : lowB k[j] = true) : (k.take (j + 1)).all lowB = true := by
  rw [List.take_succ_eq_append_getElem hj, List.all_append, h]
  simp [hb]
set_option maxRecDepth 100000 in
set_option maxHeartbeats 1600000 in
theorem right_any (k : Bys) (hk : k.length ≤ maxLen) (w : World) : Calls Tryz.prog 28 #[strV k] w fun e w' => e = .returned (.bool (rightN k)) ∧ w = w' := by
  have hz := bs_size k
  unfold strV maxLen at *
  go_enter Tryz.func28, Tryz.ntmps28
  go_wp2
  go_loop [3] (fun v3 => ∃ j : Nat, v3 = .int .i64 (j : Int) ∧ j ≤ k.length ∧ (k.take j).all lowB = true) (fun v3 => k.length - (intOf v3).toNat)
  case atStart => exact ⟨0, rfl, by omega, rfl⟩
  case round =>
    obtain ⟨j, rfl, hj, hall⟩ := hrel
    by_cases h : j < k.length
    · have hx : j < (bs k).size := by omega
      have hx2 : (j : Int) < ((bs k).size : Int) := by omega
      have hg : (bs k)[j] = k[j] := bs_get k j hx
      have q0 : decide ((j : Int) < ((bs k).size : Int)) = true := decide_eq_true hx2
      cases hb : lowB k[j] with
      | false =>
        have HR : Hid (rightN k = false) := by
          show _ = _
          unfold rightN
          rw [Bool.and_eq_false_iff]
          left
          rw [Bool.eq_false_iff]
          intro hq
          rw [List.all_eq_true] at hq
          exact Bool.false_ne_true (hb.symm.trans (hq _ (List.getElem_mem h)))
        unfold lowB at hb
        have hb := of_decide_eq_false hb
        rw [← hg] at hb
        clear hall hg h
        by_cases c1 : (bs k)[j].toNat < 97
        · as_aux_lemma =>
          have q1 : decide (((bs k)[j].toNat : Int) < 97) = true := decide_eq_true (by omega)
          clear hb c1
          go_wp2
          go_ret
          exact ⟨by rw [HR.out]; rfl, rfl⟩
        · as_aux_lemma =>
          have q1 : decide (((bs k)[j].toNat : Int) < 97) = false := decide_eq_false (by omega)
          have q2 : decide (122 < ((bs k)[j].toNat : Int)) = true := decide_eq_true (by omega)
          clear hb c1
          go_wp2
          go_ret
          exact ⟨by rw [HR.out]; rfl, rfl⟩
      | true =>
        as_aux_lemma =>
        have HA := Lib.hid (right_take h hall hb)
        unfold lowB at hb
        have hb := of_decide_eq_true hb
        rw [← hg] at hb
        have q1 : decide (((bs k)[j].toNat : Int) < 97) = false := decide_eq_false (by omega)
        have q2 : decide (122 < ((bs k)[j].toNat : Int)) = false := decide_eq_false (by omega)
        clear hall hg hb
        go_wp2
        go_round
        case rel => exact ⟨j + 1, by go_num, by omega, HA.out⟩
        case measure => simp [intOf]; omega
    · as_aux_lemma =>
      have ej : j = k.length := by omega
      subst ej
      rw [List.take_length] at hall
      have q0 : decide ((k.length : Int) < ((bs k).size : Int)) = false := decide_eq_false (by omega)
      have HR : Hid (rightN k = decide (1 ≤ k.length ∧ k.length ≤ 20)) := by
        show _ = _
        unfold rightN
        rw [hall, Bool.true_and]
      clear hall
      by_cases c1 : 1 ≤ k.length
      · by_cases c2 : k.length ≤ 20
        · rw [decide_eq_true ⟨c1, c2⟩] at HR
          have q3 : decide ((k.length : Int) ≤ 20) = true := decide_eq_true (by omega)
          go_wp2
          go_ret
          exact ⟨by rw [HR.out]; rfl, rfl⟩
        · rw [decide_eq_false (fun q => c2 q.2)] at HR
          have q3 : decide ((k.length : Int) ≤ 20) = false := decide_eq_false (by omega)
          go_wp2
          go_ret
          exact ⟨by rw [HR.out]; rfl, rfl⟩
      · rw [decide_eq_false (fun q => c1 q.1)] at HR
        go_wp2
        go_ret
        exact ⟨by rw [HR.out]; rfl, rfl⟩
def duoC (N : Nat → Bys) : List Value := [strV (N 0), strV (N 1)]
theorem duo_cell {N : Nat → Bys} {g : Nat} {T : TypeId} {w : World} (h : BlkAt g T (duoC N) w) (i : Nat) (hi : i < 2) : w.cell? ⟨g, i, none⟩ = some (strV (N i)) := by
  refine h.cell ?_
  match i, hi with
  | 0, _ => rfl
  | 1, _ => rfl
theorem two_keep (x y : Int) (w : World) (T : TypeId) : RowsAt 1 intCells (w.alloc (.cells #[.int .i64 x, .int .i64 y] T)) (.slice (some ⟨w.heap.size, 0, none⟩) [x, y].length 2) [x, y] := by
  refine ⟨_, 2, rfl, fun i hi => ⟨_, 0, rfl, ?_⟩⟩
  have h0 : i = 0 ∨ i = 1 := by simp at hi; omega
  rcases h0 with h0 | h0
  · subst h0
    exact BlkAt.range (BlkAt.alloc_new w [.int .i64 x, .int .i64 y] T) _ _ (fun j hj => by simp [intCells] at hj ⊢; subst hj; rfl)
  · subst h0
    exact BlkAt.range (BlkAt.alloc_new w [.int .i64 x, .int .i64 y] T) _ _ (fun j hj => by simp [intCells] at hj ⊢; subst hj; rfl)
end Go.Proofs.YtbaffabemomgjaaGreatDoor
