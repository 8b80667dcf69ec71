/- The walk of DiskMoves. Conditions: as each theorem says. -/
import Derived.Test.YtbaffabemomgjaaDskR
namespace Go.Proofs.Ytbaffabemomgjaa
open Go.RowKit

def triC (N : Nat → Bys) : List Value := [strV (N 0), strV (N 1), strV (N 2)]
theorem tri_cell {N : Nat → Bys} {g : Nat} {T : TypeId} {w : World} (h : BlkAt g T (triC N) w) (i : Nat) (hi : i < 3) : w.cell? ⟨g, i, none⟩ = some (strV (N i)) := by
  refine h.cell ?_
  match i, hi with
  | 0, _ => rfl
  | 1, _ => rfl
  | 2, _ => rfl
set_option maxRecDepth 100000 in
set_option maxHeartbeats 3200000 in
theorem moves_law (N X : Nat → Bys) (w : World) (hN : ∀ j, (N j).length ≤ maxLen) (hX : ∀ j, (X j).length ≤ maxLen) :
    Calls Try.prog 3 #[.agg (triC N).toArray, .agg (triC X).toArray] w fun e w' => e = .returned (.bool true) ∧ Below w.heap.size w w' := by
  have HK := Lib.hid (fun W => new_any 1048576 (by decide) (by decide) W)
  unfold maxLen at hN hX
  unfold ptrV at HK
  have HA := Lib.hid ((alloc_below w (.cells (triC N).toArray 22)).trans ((alloc_below (w.alloc (.cells (triC N).toArray 22)) (.cells (triC X).toArray 22)).mono (by simp)))
  have HBN := Lib.hid ((BlkAt.alloc_new w (triC N) 22).grew (alloc_below (w.alloc (.cells (triC N).toArray 22)) (.cells (triC X).toArray 22)))
  have HBX := Lib.hid (BlkAt.alloc_new (w.alloc (.cells (triC N).toArray 22)) (triC X) 22)
  rw [show (w.alloc (.cells (triC N).toArray 22)).heap.size = w.heap.size + 1 by simp] at HBX
  go_enter Try.func3, Try.ntmps3
  go_wp2_with (fail)
  refine (HK.out _).mono ?_
  rintro e w2 ⟨rfl, hD, hB⟩
  generalize (w.alloc (Obj.cells (triC N).toArray 22)).alloc (Obj.cells (triC X).toArray 22) = w1 at *
  have HS0 : Hid (DkSt w1 (w1.heap.size + 1) w1.heap.size (newD 1048576) w2) := Lib.hid (DkSt.made w1 hD hB)
  clear hD hB HK
  have hz := HA.out.size
  go_wp2_with (fail)
  go_loopw [7] (fun v7 wr => ∃ (i : Nat) (d : Dk), v7 = .int .i64 (i : Int) ∧ i ≤ 3 ∧ Mv N X i d ∧ DkSt w1 (w1.heap.size + 1) w1.heap.size d wr ∧ (∀ j, j < i → (N j ≠ [] ∧ (X j).length ≤ 500) ∧ ∀ k, k < j → N k ≠ N j)) (fun v7 _ => 3 - (intOf v7).toNat)
  case atStart => exact ⟨0, _, rfl, by omega, Mv.zero N X, HS0.out, fun j hj => by omega⟩
  case round =>
    obtain ⟨i, d, rfl, hi, hM, hS, hne⟩ := hrel
    have HM := Lib.hid hM
    have HS := Lib.hid hS
    have HNe := Lib.hid hne
    clear hM hS hne HS0
    by_cases h : i < 3
    · have q0 : decide ((i : Int) < 3) = true := decide_eq_true (by omega)
      have n0 : wr.cell? ⟨w.heap.size, i, none⟩ = some (.string (bs (N i))) := tri_cell (HBN.out.grew HS.out.bel) i h
      have x0 : wr.cell? ⟨w.heap.size + 1, i, none⟩ = some (.string (bs (X i))) := tri_cell (HBX.out.grew HS.out.bel) i h
      have hb1 : (bs (N i)).size = (N i).length := bs_size _
      have hb2 : (bs (X i)).size = (X i).length := bs_size _
      have hNi := hN i
      have hXi := hX i
      by_cases e1 : N i = []
      · as_aux_lemma =>
        have q1 : (bs (N i)).toList.isEmpty = true := by rw [bs_toList, e1]; rfl
        clear e1
        go_wp2_with (go_at_call 7; refine (dawake_any _).mono ?_; rintro e w9 ⟨rfl, hb9⟩)
        go_ret
        exact ⟨rfl, HA.out.trans ((HS.out.bel.trans (hb9.mono HS.out.bel.size)).mono hz)⟩
      · have q1 : (bs (N i)).toList.isEmpty = false := by rw [bs_toList]; simpa using e1
        by_cases e2 : 500 < (X i).length
        · as_aux_lemma =>
          have q2 : decide (500 < ((X i).length : Int)) = true := decide_eq_true (by omega)
          clear e1 e2
          go_wp2_with (go_at_call 7; refine (dawake_any _).mono ?_; rintro e w9 ⟨rfl, hb9⟩)
          go_ret
          exact ⟨rfl, HA.out.trans ((HS.out.bel.trans (hb9.mono HS.out.bel.size)).mono hz)⟩
        by_cases e3 : 100 < (N i).length
        · as_aux_lemma =>
          have q2 : decide (500 < ((X i).length : Int)) = false := decide_eq_false (by omega)
          have q3 : decide (100 < ((N i).length : Int)) = true := decide_eq_true (by omega)
          clear e1 e2 e3
          go_wp2_with (go_at_call 7; refine (dawake_any _).mono ?_; rintro e w9 ⟨rfl, hb9⟩)
          go_ret
          exact ⟨rfl, HA.out.trans ((HS.out.bel.trans (hb9.mono HS.out.bel.size)).mono hz)⟩
        · as_aux_lemma =>
          have q2 : decide (500 < ((X i).length : Int)) = false := decide_eq_false (by omega)
          have q3 : decide (100 < ((N i).length : Int)) = false := decide_eq_false (by omega)
          have HE1 := Lib.hid e1
          have HE2 := Lib.hid e2
          clear e1 e2 e3
          go_wp2_with (fail)
          obtain ⟨wo, hwo⟩ : ∃ wo : World, wo = wr := ⟨_, rfl⟩
          subst hwo
          clear n0 x0
          go_loopw [8] (fun v8 w5 => ∃ k : Nat, v8 = .int .i64 (k : Int) ∧ k ≤ i ∧ DkSt w1 (w1.heap.size + 1) w1.heap.size d w5 ∧ ∀ j, j < k → N j ≠ N i) (fun v8 _ => i - (intOf v8).toNat)
          case atStart => exact ⟨0, rfl, by omega, HS.out, fun j hj => by omega⟩
          case round =>
            obtain ⟨k, rfl, hk, hS5, hnk⟩ := hrel
            have HS5 := Lib.hid hS5
            have HNk := Lib.hid hnk
            clear hS5 hnk
            have n0 : wr.cell? ⟨w.heap.size, i, none⟩ = some (.string (bs (N i))) := tri_cell (HBN.out.grew HS5.out.bel) i h
            by_cases hki : k < i
            · as_aux_lemma =>
              have q4 : decide (k < i) = true := decide_eq_true hki
              have n1 : wr.cell? ⟨w.heap.size, k, none⟩ = some (.string (bs (N k))) := tri_cell (HBN.out.grew HS5.out.bel) k (by omega)
              by_cases eN : N k = N i
              · go_wp2_with (fail)
                go_quiet (fail)
                have HS6 := Lib.hid (HS5.out.grew (below_drewN (Below.refl _ wr) nq))
                have q5 : ((bs (N k)).toList == (bs (N i)).toList) = true := by rw [eN]; exact beq_self_eq_true _
                have q6 : decide (bs (N k) = bs (N i)) = true := by rw [eN]; exact decide_eq_true rfl
                clear eN
                go_wp2_with (go_at_call 7; refine (dawake_any _).mono ?_; rintro e w9 ⟨rfl, hb9⟩)
                go_ret
                exact ⟨rfl, HA.out.trans ((HS6.out.bel.trans (hb9.mono HS6.out.bel.size)).mono hz)⟩
              · have hbn : bs (N k) ≠ bs (N i) := fun e => eN (by rw [← bs_toList (N k), ← bs_toList (N i), e])
                have HEn := Lib.hid eN
                go_wp2_with (fail)
                go_quiet (fail)
                have HS6 := Lib.hid (HS5.out.grew (below_drewN (Below.refl _ wr) nq))
                have q5 : ((bs (N k)).toList == (bs (N i)).toList) = false := by rw [bs_toList, bs_toList]; simpa using eN
                have q6 : decide (bs (N k) = bs (N i)) = false := decide_eq_false hbn
                clear eN
                go_wp2_with (fail)
                · exact absurd (q5.symm.trans ‹((bs (N k)).toList == (bs (N i)).toList) = true›) (by decide)
                go_roundw
                case rel =>
                  refine ⟨k + 1, by go_num, by omega, HS6.out, fun j hj => ?_⟩
                  by_cases hjk : j = k
                  · rw [hjk]; exact HEn.out
                  · exact HNk.out j (by omega)
                case measure => simp [intOf]; omega
            · as_aux_lemma =>
              have q4 : decide (k < i) = false := decide_eq_false hki
              obtain rfl : k = i := by omega
              have x0 : wr.cell? ⟨w.heap.size + 1, k, none⟩ = some (.string (bs (X k))) := tri_cell (HBX.out.grew HS5.out.bel) k h
              obtain ⟨r1, r2, r3, r4, r5⟩ := HM.out.app h HE1.out (by have := HE2.out; omega) HNk.out
              have HAp := Lib.hid (fun (W : World) (hW : DkAt (w1.heap.size + 1) w1.heap.size d W) => append_any hW HM.out.fit (by have := HM.out.len; omega) (N k) (X k) (hN k) (hX k))
              have HSy := Lib.hid (fun (W : World) (hW : DkAt (w1.heap.size + 1) w1.heap.size (appendD d (N k) (X k)).1 W) => sync_any hW r2 (by omega) (N k) (hN k))
              have HM2 := Lib.hid r5
              have HBk := Lib.hid (fun (W : World) (hW : Below w1.heap.size w1 W) => (tri_cell (HBN.out.grew hW) k h : W.cell? ⟨w.heap.size, k, none⟩ = some (.string (bs (N k)))))
              rw [r1] at HAp
              rw [r4] at HSy
              obtain ⟨d2, hd2⟩ : ∃ d2, d2 = (appendD d (N k) (X k)).1 := ⟨_, rfl⟩
              rw [← hd2] at HAp HSy HM2
              obtain ⟨d3, hd3⟩ : ∃ d3, d3 = (syncD d2 (N k)).1 := ⟨_, rfl⟩
              rw [← hd3] at HSy HM2
              unfold ptrV strV at HAp HSy
              unfold strV at HBk
              clear r1 r2 r3 r4 r5 hd2 hd3
              have HS5d := Lib.hid (HS5.out.grew (Below.refl _ wr).drew)
              go_wp2_with (fail)
              go_region_with (first
                | (go_at_call 8; (with_reducible refine (HAp.out _ HS5d.out.at_).mono ?_); rintro e w5 hk5; obtain ⟨rfl, hS6⟩ := HS5d.out.done hk5; have HS6 := Lib.hid hS6; clear hk5 hS6; have n6 := HBk.out _ HS6.out.bel)
                | (go_at_call 9; (with_reducible refine (HSy.out _ HS6.out.at_).mono ?_); rintro e w7 hk7; obtain ⟨rfl, hS8⟩ := HS6.out.done hk7; have HS8 := Lib.hid hS8; clear hk7 hS8))
              all_goals (
                go_wp2_with (fail)
                go_roundw
                case rel =>
                  refine ⟨k + 1, d3, by go_num, by omega, HM2.out, HS8.out, fun j hj => ?_⟩
                  by_cases hjk : j = k
                  · rw [hjk]; exact ⟨⟨HE1.out, by have := HE2.out; omega⟩, HNk.out⟩
                  · exact HNe.out j (by omega)
                case measure => simp [intOf]; omega)
    · as_aux_lemma =>
      have q0 : decide ((i : Int) < 3) = false := decide_eq_false (by omega)
      obtain rfl : i = 3 := by omega
      obtain ⟨⟨_, l0⟩, _⟩ := HNe.out 0 (by omega)
      obtain ⟨⟨z1, l1⟩, z2⟩ := HNe.out 1 (by omega)
      obtain ⟨⟨_, l2⟩, z3⟩ := HNe.out 2 (by omega)
      obtain ⟨r1, r2, r3, r4⟩ := HM.out.move z1 (z2 0 (by omega)) (z3 0 (by omega)) (z3 1 (by omega)) l0 l2
      have HRn := Lib.hid (rename_any HS.out.at_ HM.out.fit (by have := HM.out.len; omega) (N 0) (N 1) (hN 0) (hN 1))
      rw [r1] at HRn
      obtain ⟨d2, hd2⟩ : ∃ d2, d2 = (renameD d (N 0) (N 1)).1 := ⟨_, rfl⟩
      rw [← hd2] at HRn r2 r3 r4
      have HCr := Lib.hid (fun (W : World) (hW : DkAt (w1.heap.size + 1) w1.heap.size d2 W) => crash_any hW r2 (by omega) [] none 0 (keeps_none W) (by decide) (by decide))
      obtain ⟨d3, hd3⟩ : ∃ d3, d3 = crashD d2 [] := ⟨_, rfl⟩
      rw [← hd3] at HCr r4
      obtain ⟨e1, e2, e3, e4, e5⟩ := r4.reads
      have HR1 := Lib.hid (fun (W : World) (hW : DkAt (w1.heap.size + 1) w1.heap.size d3 W) => read_any hW (N 1) (hN 1))
      have HR2 := Lib.hid (fun (W : World) (hW : DkAt (w1.heap.size + 1) w1.heap.size d3 W) => read_any hW (N 2) (hN 2))
      have HR0 := Lib.hid (fun (W : World) (hW : DkAt (w1.heap.size + 1) w1.heap.size d3 W) => read_any hW (N 0) (hN 0))
      have HNm := Lib.hid (fun (W : World) (hW : DkAt (w1.heap.size + 1) w1.heap.size d3 W) => names_any hW r4.fit (by have := r4.len; omega))
      have HUs := Lib.hid (fun (W : World) (hW : DkAt (w1.heap.size + 1) w1.heap.size d3 W) => used_any hW r4.fit)
      rw [e1] at HR1
      rw [e2] at HR2
      rw [e3] at HR0
      rw [e5, Int.natCast_add] at HUs
      have HE4 := Lib.hid e4
      have HC := Lib.hid (fun (W : World) (hW : Below w1.heap.size w1 W) (i : Nat) (hi : i < 3) => tri_cell (HBN.out.grew hW) i hi)
      have HCX := Lib.hid (fun (W : World) (hW : Below w1.heap.size w1 W) (i : Nat) (hi : i < 3) => tri_cell (HBX.out.grew hW) i hi)
      unfold ptrV strV at *
      simp only [List.length_nil] at HCr HR1 HR2 HR0
      have n0 := HC.out _ HS.out.bel 0 (by omega)
      have n1 := HC.out _ HS.out.bel 1 (by omega)
      have hb0 : (bs (X 0)).size = (X 0).length := bs_size _
      have hb2 : (bs (X 2)).size = (X 2).length := bs_size _
      clear e1 e2 e3 e4 e5 r1 r2 r3 r4 hd2 hd3 h hi z1 z2 z3 l1 HM HNe
      go_wp2_with (go_at_call 10; (with_reducible refine HRn.out.mono ?_); rintro e w3 hk3; obtain ⟨rfl, hS3⟩ := HS.out.done hk3; have HS3 := Lib.hid hS3; clear hk3 hS3 HRn n0 n1)
      go_wp2_with (go_at_call 11; (with_reducible refine (HCr.out _ HS3.out.at_).mono ?_); rintro e w4 hk4; obtain ⟨rfl, hS4⟩ := HS3.out.done hk4; have HS4 := Lib.hid hS4; clear hk4 hS4 HCr; have n1 := HC.out _ HS4.out.bel 1 (by omega))
      go_wp2_with (go_at_call 12; (with_reducible refine (HR1.out _ HS4.out.at_).mono ?_); rintro e w5 ⟨rfl, hb5⟩; have HS5 := Lib.hid (HS4.out.grew hb5); clear hb5 HR1 n1; have n2 := HC.out _ HS5.out.bel 2 (by omega))
      go_wp2_with (go_at_call 12; (with_reducible refine (HR2.out _ HS5.out.at_).mono ?_); rintro e w6 ⟨rfl, hb6⟩; have HS6 := Lib.hid (HS5.out.grew hb6); clear hb6 HR2 n2; have n0 := HC.out _ HS6.out.bel 0 (by omega))
      go_wp2_with (go_at_call 12; (with_reducible refine (HR0.out _ HS6.out.at_).mono ?_); rintro e w7 ⟨rfl, hb7⟩; have HS7 := Lib.hid (HS6.out.grew hb7); clear hb7 HR0 n0; have x0 := HCX.out _ HS7.out.bel 0 (by omega); have x2 := HCX.out _ HS7.out.bel 2 (by omega))
      go_wp2_with (go_at_call 13; (with_reducible refine (HNm.out _ HS7.out.at_).mono ?_); rintro e w8 ⟨v, rfl, hG, hb8⟩; have HS8 := Lib.hid (HS7.out.grew hb8); obtain ⟨na, nc, hv⟩ := hG.slice; subst hv; rw [HE4.out]; clear hb8 hG HNm x0 x2)
      go_wp2_with (go_at_call 14; (with_reducible refine (HUs.out _ HS8.out.at_).mono ?_); rintro e w9 ⟨rfl, hb9⟩; have HS9 := Lib.hid (HS8.out.grew hb9); clear hb9 HUs)
      go_wp2_with (go_at_call 7; refine (dawake_any _).mono ?_; rintro e w10 ⟨rfl, hb10⟩)
      go_ret
      exact ⟨rfl, HA.out.trans ((HS9.out.bel.trans (hb10.mono HS9.out.bel.size)).mono hz)⟩
end Go.Proofs.Ytbaffabemomgjaa
