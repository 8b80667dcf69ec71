/- The walk of the law KeepTidies. Conditions: as each theorem says. -/
import Derived.Test.YtbaffabemomgjaaDoorKepR
namespace Go.Proofs.YtbaffabemomgjaaDoor
open Go.RowKit

set_option maxRecDepth 100000 in
set_option maxHeartbeats 3200000 in
theorem tidies_law (k : Bys) (N : Nat → Bys) (act : Int) (w : World) (hk : k.length ≤ maxLen) (hN : ∀ j, (N j).length ≤ maxLen) (hact : act < 9223372036854775808) :
    Calls Tryd.prog 6 #[strV k, .agg (duoC N).toArray, .int .i64 act] w fun e w' => e = .returned (.bool true) ∧ Below w.heap.size w w' := by
  have HR := Lib.hid (fun W => right_any k hk W)
  have hN0 := hN 0
  have hN1 := hN 1
  have hz0 := bs_size (N 0)
  have hz1 := bs_size (N 1)
  have HA := Lib.hid (alloc_below w (.cells (duoC N).toArray 22))
  have HBN := Lib.hid (BlkAt.alloc_new w (duoC N) 22)
  have n0 := duo_cell HBN.out 0 (by omega)
  have n1 := duo_cell HBN.out 1 (by omega)
  unfold strV maxLen at *
  by_cases good : rightN k = true ∧ 1 ≤ (N 0).length ∧ (N 0).length ≤ 500 ∧ 1 ≤ (N 1).length ∧ (N 1).length ≤ 500 ∧ 1 ≤ act
  case neg =>
    cases hr : rightN k with
    | false =>
      as_aux_lemma =>
      rw [hr] at HR
      clear good hr
      go_enter Tryd.func6, Tryd.ntmps6
      go_wp2_with (first
        | (go_at_call 7; refine (HR.out _).mono ?_; rintro e w2 ⟨rfl, rfl⟩)
        | (go_at_call 8; refine (kawake_any _).mono ?_; rintro e w9 ⟨rfl, hb9⟩))
      go_ret
      exact ⟨rfl, HA.out.trans (hb9.mono HA.out.size)⟩
    | true =>
      rw [hr] at HR
      have hall : Hid (∃ (b1 b2 b3 b4 b5 : Bool), decide (((N 0).length : Int) < 1) = b1 ∧ decide (500 < ((N 0).length : Int)) = b2 ∧ decide (((N 1).length : Int) < 1) = b3 ∧ decide (500 < ((N 1).length : Int)) = b4 ∧ decide (act < 1) = b5 ∧ (b1 = true ∨ b2 = true ∨ b3 = true ∨ b4 = true ∨ b5 = true)) := by
        refine Lib.hid ⟨_, _, _, _, _, rfl, rfl, rfl, rfl, rfl, ?_⟩
        simp only [decide_eq_true_eq]
        apply Classical.byContradiction
        intro h
        apply good
        refine ⟨hr, ?_, ?_, ?_, ?_, ?_⟩ <;> omega
      clear good hr
      obtain ⟨b1, b2, b3, b4, b5, q1, q2, q3, q4, q5, hb⟩ := hall.out
      clear hall
      cases b1
      · cases b2
        · cases b3
          · cases b4
            · cases b5
              · simp at hb
              · as_aux_lemma =>
                clear hb
                go_enter Tryd.func6, Tryd.ntmps6
                go_wp2_with (first
                  | (go_at_call 7; refine (HR.out _).mono ?_; rintro e w2 ⟨rfl, rfl⟩)
                  | (go_at_call 8; refine (kawake_any _).mono ?_; rintro e w9 ⟨rfl, hb9⟩))
                go_ret
                exact ⟨rfl, HA.out.trans (hb9.mono HA.out.size)⟩
            · as_aux_lemma =>
              clear hb q5
              go_enter Tryd.func6, Tryd.ntmps6
              go_wp2_with (first
                | (go_at_call 7; refine (HR.out _).mono ?_; rintro e w2 ⟨rfl, rfl⟩)
                | (go_at_call 8; refine (kawake_any _).mono ?_; rintro e w9 ⟨rfl, hb9⟩))
              go_ret
              exact ⟨rfl, HA.out.trans (hb9.mono HA.out.size)⟩
          · as_aux_lemma =>
            clear hb q5 q4
            go_enter Tryd.func6, Tryd.ntmps6
            go_wp2_with (first
              | (go_at_call 7; refine (HR.out _).mono ?_; rintro e w2 ⟨rfl, rfl⟩)
              | (go_at_call 8; refine (kawake_any _).mono ?_; rintro e w9 ⟨rfl, hb9⟩))
            go_ret
            exact ⟨rfl, HA.out.trans (hb9.mono HA.out.size)⟩
        · as_aux_lemma =>
          clear hb q5 q4 q3
          go_enter Tryd.func6, Tryd.ntmps6
          go_wp2_with (first
            | (go_at_call 7; refine (HR.out _).mono ?_; rintro e w2 ⟨rfl, rfl⟩)
            | (go_at_call 8; refine (kawake_any _).mono ?_; rintro e w9 ⟨rfl, hb9⟩))
          go_ret
          exact ⟨rfl, HA.out.trans (hb9.mono HA.out.size)⟩
      · as_aux_lemma =>
        clear hb q5 q4 q3 q2
        go_enter Tryd.func6, Tryd.ntmps6
        go_wp2_with (first
          | (go_at_call 7; refine (HR.out _).mono ?_; rintro e w2 ⟨rfl, rfl⟩)
          | (go_at_call 8; refine (kawake_any _).mono ?_; rintro e w9 ⟨rfl, hb9⟩))
        go_ret
        exact ⟨rfl, HA.out.trans (hb9.mono HA.out.size)⟩
  obtain ⟨hr, h1, h2, h3, h4, h5⟩ := good
  rw [hr] at HR
  obtain ⟨d1, d2, d3, d4, d6, d7, was, T⟩ := tidies_plain hr h1 h2 h3 h4 h5 hact (fun d => save_length d k (N 1))
  have q1 : decide (((N 0).length : Int) < 1) = false := decide_eq_false (by omega)
  have q2 : decide (500 < ((N 0).length : Int)) = false := decide_eq_false (by omega)
  have q3 : decide (((N 1).length : Int) < 1) = false := decide_eq_false (by omega)
  have q4 : decide (500 < ((N 1).length : Int)) = false := decide_eq_false (by omega)
  have q5 : decide (act < 1) = false := decide_eq_false (by omega)
  have HK := Lib.hid (fun W => new_any 1048576 (by decide) (by decide) W)
  have K1 := Lib.hid (fun (g b : Nat) (W : World) (h : DkAt g b ⟨[], 1048576, 0, false⟩ W) => save_any h newL_fit (by decide) k (N 0) hk hN0)
  rw [T.e1] at K1
  have K2 := Lib.hid (fun (g b : Nat) (W : World) (h : DkAt g b d1 W) => append_any h T.f1 (by have := T.n1; omega) otherN [120] (by decide) (by decide))
  rw [T.e2] at K2
  have K3 := Lib.hid (fun (g b : Nat) (W : World) (h : DkAt g b d2 W) => sync_any h T.f2 (by have := T.n2; omega) otherN (by decide))
  rw [T.e3] at K3
  have K4 := Lib.hid (fun (g b : Nat) (W : World) (h : DkAt g b d3 W) => arm_any h act)
  rw [T.e4] at K4
  have K5 := Lib.hid (fun (g b : Nat) (W : World) (h : DkAt g b d4 W) => save_any h T.f4 (by have := T.n4; omega) k (N 1) hk hN1)
  have K6 := Lib.hid (fun (g b : Nat) (W : World) (h : DkAt g b (saveD d4 k (N 1)).1 W) (a : Option Addr) (hr : RowsAt 1 intCells W (.slice a [(1000 : Int), 1000].length 2) [1000, 1000]) => crash_any h T.f5 (by have := T.n5; omega) [1000, 1000] a 2 hr (by decide) (by decide))
  rw [T.e6] at K6
  have K7 := Lib.hid (fun (g b : Nat) (W : World) (h : DkAt g b d6 W) => load_any h T.f6 k hk)
  have K8 := Lib.hid (fun (g b : Nat) (W : World) (h : DkAt g b d6 W) => tidy_any h T.f6 (by have := T.n6; omega))
  rw [T.e8] at K8
  have K9 := Lib.hid (fun (g b : Nat) (W : World) (h : DkAt g b d7 W) => load_any h T.f7 k hk)
  have K10 := Lib.hid (fun (g b : Nat) (W : World) (h : DkAt g b d7 W) => read_any h otherN (by decide))
  rw [T.e10] at K10
  have K11 := Lib.hid (fun (g b : Nat) (W : World) (h : DkAt g b d7 W) => names_any h T.f7 (by have := T.n7; omega))
  have hlen := T.e11
  unfold LoadSaid at K7 K9
  rw [T.e7] at K7
  rw [T.e9] at K9
  have HO := Lib.hid (fun (W : World) => two_keep 1000 1000 W 3)
  simp only [List.length_cons, List.length_nil, Nat.zero_add, Nat.reduceAdd] at K6 HO
  generalize saveD d4 k (N 1) = r5 at *
  obtain ⟨d5, z5⟩ := r5
  unfold strV otherN bs at K2 K3 K10
  unfold strV at *
  unfold ptrV at *
  simp only at K1 K2 K3 K4 K5 K6 K7 K8 K9 K10
  clear T h1 h2 h3 h4 h5 hr hN hk hact
  go_enter Tryd.func6, Tryd.ntmps6
  go_wp2_with (fail)
  refine (HR.out _).mono ?_
  rintro e w2 ⟨rfl, rfl⟩
  go_wp2_with (fail)
  refine (HK.out _).mono ?_
  rintro e w3 ⟨rfl, hD, hB⟩
  generalize hw1 : w.alloc (Obj.cells (duoC N).toArray 22) = w1 at *
  have HS := Lib.hid (DkSt.made w1 w1 (Nat.le_refl _) (Below.refl _ _) hD hB)
  have n0 := duo_cell (HBN.out.grew HS.out.bel) 0 (by omega)
  have n1 := duo_cell (HBN.out.grew HS.out.bel) 1 (by omega)
  unfold strV at n0 n1
  clear hD hB HK hw1
  go_wp2_with (fail)
  refine (K1.out _ _ _ HS.out.at_).mono ?_
  rintro e w4 hk
  obtain ⟨rfl, hS⟩ := HS.out.done hk
  have HS := Lib.hid hS
  clear hk hS K1
  have n0 := duo_cell (HBN.out.grew HS.out.bel) 0 (by omega)
  have n1 := duo_cell (HBN.out.grew HS.out.bel) 1 (by omega)
  unfold strV at n0 n1
  go_wp2_with (fail)
  refine (K2.out _ _ _ HS.out.at_).mono ?_
  rintro e w5 hk
  obtain ⟨rfl, hS⟩ := HS.out.done hk
  have HS := Lib.hid hS
  clear hk hS K2
  have n0 := duo_cell (HBN.out.grew HS.out.bel) 0 (by omega)
  have n1 := duo_cell (HBN.out.grew HS.out.bel) 1 (by omega)
  unfold strV at n0 n1
  go_wp2_with (fail)
  refine (K3.out _ _ _ HS.out.at_).mono ?_
  rintro e w6 hk
  obtain ⟨rfl, hS⟩ := HS.out.done hk
  have HS := Lib.hid hS
  clear hk hS K3
  have n0 := duo_cell (HBN.out.grew HS.out.bel) 0 (by omega)
  have n1 := duo_cell (HBN.out.grew HS.out.bel) 1 (by omega)
  unfold strV at n0 n1
  go_wp2_with (fail)
  refine (K4.out _ _ _ HS.out.at_).mono ?_
  rintro e w7 ⟨rfl, hd, hg⟩
  have HS := Lib.hid (HS.out.own hd hg)
  clear hd hg K4
  have n0 := duo_cell (HBN.out.grew HS.out.bel) 0 (by omega)
  have n1 := duo_cell (HBN.out.grew HS.out.bel) 1 (by omega)
  unfold strV at n0 n1
  go_wp2_with (fail)
  refine (K5.out _ _ _ HS.out.at_).mono ?_
  rintro e w8 hk
  obtain ⟨rfl, hS⟩ := HS.out.done hk
  have HS := Lib.hid hS
  clear hk hS K5
  go_wp2_with (fail)
  have HSa := Lib.hid (HS.out.grew (alloc_below w8 (.cells #[.int .i64 1000, .int .i64 1000] 3)))
  refine (K6.out _ _ _ HSa.out.at_ _ (HO.out w8)).mono ?_
  rintro e w9 hk
  obtain ⟨rfl, hS⟩ := HSa.out.done hk
  have HS := Lib.hid hS
  clear hk hS HSa K6
  go_wp2_with (fail)
  refine (K7.out _ _ _ HS.out.at_).mono ?_
  rintro e w10 ⟨rfl, hb⟩
  have HS := Lib.hid (HS.out.grew hb)
  clear hb K7
  go_wp2_with (fail)
  refine (K8.out _ _ _ HS.out.at_).mono ?_
  rintro e w11 hk
  obtain ⟨rfl, hS⟩ := HS.out.done hk
  have HS := Lib.hid hS
  clear hk hS K8
  go_wp2_with (fail)
  refine (K9.out _ _ _ HS.out.at_).mono ?_
  rintro e w12 ⟨rfl, hb⟩
  have HS := Lib.hid (HS.out.grew hb)
  clear hb K9
  go_wp2_with (fail)
  refine (K10.out _ _ _ HS.out.at_).mono ?_
  rintro e w13 ⟨rfl, hb⟩
  have HS := Lib.hid (HS.out.grew hb)
  clear hb K10
  go_wp2_with (fail)
  refine (K11.out _ _ _ HS.out.at_).mono ?_
  rintro e w14 ⟨v, rfl, hG, hb⟩
  have HS := Lib.hid (HS.out.grew hb)
  obtain ⟨na, nc, hv⟩ := hG.slice
  subst hv
  rw [hlen]
  clear hG hb K11 hlen
  go_wp2_with (go_at_call 8; refine (kawake_any _).mono ?_; rintro e w15 ⟨rfl, hb9⟩)
  go_ret
  exact ⟨rfl, HA.out.trans ((HS.out.grew hb9).bel.mono HA.out.size)⟩
end Go.Proofs.YtbaffabemomgjaaDoor
