/- The walks of the reference's Right and its parts. Conditions: as each theorem says. -/
import Derived.Test.YtlbacddgjagcbaaValZ
namespace Go.Proofs.Ytlbacddgjagcbaa
open Go.RowKit

set_option maxRecDepth 100000 in
theorem refIn_any (n lo hi : Int) (w : World) : Calls Try.prog 75 #[.int .i64 n, .int .i64 lo, .int .i64 hi] w fun e w' => e = .returned (.bool (decide (lo ≤ n) && decide (n ≤ hi))) ∧ Below w.heap.size w w' := by
  have hB := Below.refl w.heap.size w
  by_cases h1 : lo ≤ n
  · have t1 : decide (lo ≤ n) = true := decide_eq_true h1
    rw [t1, Bool.true_and]
    go_enter Try.func75, Try.ntmps75
    go_wp2
    go_ret
    exact ⟨rfl, hB⟩
  · have t1 : decide (lo ≤ n) = false := decide_eq_false h1
    rw [t1, Bool.false_and]
    go_enter Try.func75, Try.ntmps75
    go_wp2
    go_ret
    exact ⟨rfl, hB⟩
set_option maxRecDepth 100000 in
theorem refNumber_any (n : Int) (w : World) : Calls Try.prog 73 #[.int .i64 n] w fun e w' => e = .returned (.bool (inB n)) ∧ Below w.heap.size w w' := by
  have HI := Lib.hid (fun X => refIn_any n 0 1099511627776 X)
  have HV : Hid (inB n = (decide (0 ≤ n) && decide (n ≤ 1099511627776))) := rfl
  rw [← HV.out] at HI
  generalize inB n = R at *
  go_enter Try.func73, Try.ntmps73
  go_wp2_with (fail)
  refine (HI.out _).mono ?_
  rintro e w1 ⟨rfl, hb⟩
  go_wp2
  go_ret
  exact ⟨rfl, hb⟩
set_option maxRecDepth 100000 in
theorem refZxid_any (z : Int × Int) (w : World) : Calls Try.prog 74 #[zxidV z] w fun e w' => e = .returned (.bool (zxB z)) ∧ Below w.heap.size w w' := by
  obtain ⟨a, b⟩ := z
  have HV : Hid (zxB (a, b) = (inB a && inB b)) := by show _ = _; unfold zxB withinB; simp
  generalize zxB (a, b) = V at *
  have HA := Lib.hid (fun X => refNumber_any a X)
  have HC := Lib.hid (fun X => refNumber_any b X)
  generalize inB a = A at *
  generalize inB b = C at *
  unfold zxidV
  simp only
  have hB := alloc_below w (.cells #[.int .i64 a, .int .i64 b] 48)
  have m1 : (w.alloc (.cells #[.int .i64 a, .int .i64 b] 48)).cell? ⟨w.heap.size, 1, none⟩ = some (.int .i64 b) := by simp
  go_enter Try.func74, Try.ntmps74
  go_wp2_with (fail)
  refine (HA.out _).mono ?_
  rintro e w1 ⟨rfl, hb⟩
  have m1 := Grew.cell hb m1
  have hB1 := hB.trans (hb.mono hB.size)
  cases A
  · go_wp2
    go_ret
    exact ⟨by rw [HV.out]; rfl, hB1⟩
  · go_wp2_with (fail)
    refine (HC.out _).mono ?_
    rintro e w2 ⟨rfl, hb2⟩
    go_wp2
    go_ret
    exact ⟨by rw [HV.out]; rfl, hB1.trans (hb2.mono hB1.size)⟩
theorem vote_same (l : Int) (z : Int × Int) (p r s : Int) : voteB l z p r s = (inB l && (zxB z && (inB p && (inB r && ((decide ((1 : Int) ≤ s) && decide (s ≤ 3))))))) := by
  unfold voteB zxB 
  simp [withinB, inB, Bool.and_assoc, Bool.and_comm, Bool.and_left_comm]
set_option maxRecDepth 100000 in
set_option maxHeartbeats 4000000 in
theorem refRight_vote (l : Int) (z : Int × Int) (p r s : Int) (w : World) : Calls Try.prog 58 #[msgV (plM (.vote l z p r s)) none 0] w fun e w' => e = .returned (.bool (voteB l z p r s)) ∧ Below w.heap.size w w' := by
  have HV := Lib.hid (vote_same l z p r s)
  generalize voteB l z p r s = V at HV ⊢
  have H0 := Lib.hid (fun X => refNumber_any l X)
  generalize inB l = B0 at *
  have H1 := Lib.hid (fun X => refZxid_any z X)
  generalize zxB z = B1 at *
  have H2 := Lib.hid (fun X => refNumber_any p X)
  generalize inB p = B2 at *
  have H3 := Lib.hid (fun X => refNumber_any r X)
  generalize inB r = B3 at *
  have H4 := Lib.hid (fun X => refIn_any s 1 3 X)
  generalize (decide ((1 : Int) ≤ s) && decide (s ≤ 3)) = B4 at *
  obtain ⟨z1, z2⟩ := z
  unfold zxidV at H1
  simp only at H1
  unfold msgV msgCells plM
  simp only [List.length_nil]
  obtain ⟨W, hW⟩ : ∃ X, X = w.alloc (.cells #[.int .i64 1, .int .i64 l, .int .i64 z1, .int .i64 z2, .int .i64 p, .int .i64 0, .int .i64 0, .int .i64 0, .int .i64 r, .int .i64 s, .int .i64 0, .string (bs []), .slice none 0 0, .bool false, .int .i64 0, .int .i64 0, .int .i64 0] 51) := ⟨_, rfl⟩
  have hB : Below w.heap.size w W := by rw [hW]; exact alloc_below w _
  have hk : W.heap[w.heap.size]? = some (.cells #[.int .i64 1, .int .i64 l, .int .i64 z1, .int .i64 z2, .int .i64 p, .int .i64 0, .int .i64 0, .int .i64 0, .int .i64 r, .int .i64 s, .int .i64 0, .string (bs []), .slice none 0 0, .bool false, .int .i64 0, .int .i64 0, .int .i64 0] 51 (0, 0)) := by rw [hW]; exact heap_alloc_new w _
  have HK := Lib.hid (fun X (hX : Below W.heap.size W X) => Grew.at_ hX hk)
  have HWe := Lib.hid hW
  have HB : Hid (∀ X, Below W.heap.size W X → Below w.heap.size w X) := fun X hX => hB.trans (hX.mono hB.size)
  clear hW hk hB
  go_enter Try.func58, Try.ntmps58
  go_upto_region 1 with (fail)
  rw [← HWe.out]
  clear HWe
  generalize hg : w.heap.size = g at *
  have HG := Lib.hid hg
  clear hg
  have hb0 := Below.refl W.heap.size W
  have m0 : W.cell? ⟨g, 0, none⟩ = some (.int .i64 1) := by rw [Lib.cell_of_heap (HK.out _ hb0)]; rfl
  have m1 : W.cell? ⟨g, 1, none⟩ = some (.int .i64 l) := by rw [Lib.cell_of_heap (HK.out _ hb0)]; rfl
  have m2 : W.cell? ⟨g, 2, none⟩ = some (.int .i64 z1) := by rw [Lib.cell_of_heap (HK.out _ hb0)]; rfl
  have m3 : W.cell? ⟨g, 3, none⟩ = some (.int .i64 z2) := by rw [Lib.cell_of_heap (HK.out _ hb0)]; rfl
  have m4 : W.cell? ⟨g, 4, none⟩ = some (.int .i64 p) := by rw [Lib.cell_of_heap (HK.out _ hb0)]; rfl
  have m8 : W.cell? ⟨g, 8, none⟩ = some (.int .i64 r) := by rw [Lib.cell_of_heap (HK.out _ hb0)]; rfl
  have m9 : W.cell? ⟨g, 9, none⟩ = some (.int .i64 s) := by rw [Lib.cell_of_heap (HK.out _ hb0)]; rfl
  go_wp2_with (fail)
  refine (H0.out _).mono ?_
  rintro e w1 ⟨rfl, hx⟩
  have hb1 := hb0.trans (hx.mono hb0.size)
  clear hx m0 m1 m2 m3 m4 m8 m9
  have m0 : w1.cell? ⟨g, 0, none⟩ = some (.int .i64 1) := by rw [Lib.cell_of_heap (HK.out _ hb1)]; rfl
  have m1 : w1.cell? ⟨g, 1, none⟩ = some (.int .i64 l) := by rw [Lib.cell_of_heap (HK.out _ hb1)]; rfl
  have m2 : w1.cell? ⟨g, 2, none⟩ = some (.int .i64 z1) := by rw [Lib.cell_of_heap (HK.out _ hb1)]; rfl
  have m3 : w1.cell? ⟨g, 3, none⟩ = some (.int .i64 z2) := by rw [Lib.cell_of_heap (HK.out _ hb1)]; rfl
  have m4 : w1.cell? ⟨g, 4, none⟩ = some (.int .i64 p) := by rw [Lib.cell_of_heap (HK.out _ hb1)]; rfl
  have m8 : w1.cell? ⟨g, 8, none⟩ = some (.int .i64 r) := by rw [Lib.cell_of_heap (HK.out _ hb1)]; rfl
  have m9 : w1.cell? ⟨g, 9, none⟩ = some (.int .i64 s) := by rw [Lib.cell_of_heap (HK.out _ hb1)]; rfl
  cases B0
  case false =>
    as_aux_lemma =>
    rw [Bool.false_and] at HV
    go_wp2
    go_ret
    exact ⟨by rw [HV.out]; rfl, by rw [HG.out]; exact HB.out _ hb1⟩
  rw [Bool.true_and] at HV
  go_wp2_with (fail)
  refine (H1.out _).mono ?_
  rintro e w2 ⟨rfl, hx⟩
  have hb2 := hb1.trans (hx.mono hb1.size)
  clear hx m0 m1 m2 m3 m4 m8 m9
  have m0 : w2.cell? ⟨g, 0, none⟩ = some (.int .i64 1) := by rw [Lib.cell_of_heap (HK.out _ hb2)]; rfl
  have m1 : w2.cell? ⟨g, 1, none⟩ = some (.int .i64 l) := by rw [Lib.cell_of_heap (HK.out _ hb2)]; rfl
  have m2 : w2.cell? ⟨g, 2, none⟩ = some (.int .i64 z1) := by rw [Lib.cell_of_heap (HK.out _ hb2)]; rfl
  have m3 : w2.cell? ⟨g, 3, none⟩ = some (.int .i64 z2) := by rw [Lib.cell_of_heap (HK.out _ hb2)]; rfl
  have m4 : w2.cell? ⟨g, 4, none⟩ = some (.int .i64 p) := by rw [Lib.cell_of_heap (HK.out _ hb2)]; rfl
  have m8 : w2.cell? ⟨g, 8, none⟩ = some (.int .i64 r) := by rw [Lib.cell_of_heap (HK.out _ hb2)]; rfl
  have m9 : w2.cell? ⟨g, 9, none⟩ = some (.int .i64 s) := by rw [Lib.cell_of_heap (HK.out _ hb2)]; rfl
  cases B1
  case false =>
    as_aux_lemma =>
    rw [Bool.false_and] at HV
    go_wp2
    go_ret
    exact ⟨by rw [HV.out]; rfl, by rw [HG.out]; exact HB.out _ hb2⟩
  rw [Bool.true_and] at HV
  go_wp2_with (fail)
  refine (H2.out _).mono ?_
  rintro e w3 ⟨rfl, hx⟩
  have hb3 := hb2.trans (hx.mono hb2.size)
  clear hx m0 m1 m2 m3 m4 m8 m9
  have m0 : w3.cell? ⟨g, 0, none⟩ = some (.int .i64 1) := by rw [Lib.cell_of_heap (HK.out _ hb3)]; rfl
  have m1 : w3.cell? ⟨g, 1, none⟩ = some (.int .i64 l) := by rw [Lib.cell_of_heap (HK.out _ hb3)]; rfl
  have m2 : w3.cell? ⟨g, 2, none⟩ = some (.int .i64 z1) := by rw [Lib.cell_of_heap (HK.out _ hb3)]; rfl
  have m3 : w3.cell? ⟨g, 3, none⟩ = some (.int .i64 z2) := by rw [Lib.cell_of_heap (HK.out _ hb3)]; rfl
  have m4 : w3.cell? ⟨g, 4, none⟩ = some (.int .i64 p) := by rw [Lib.cell_of_heap (HK.out _ hb3)]; rfl
  have m8 : w3.cell? ⟨g, 8, none⟩ = some (.int .i64 r) := by rw [Lib.cell_of_heap (HK.out _ hb3)]; rfl
  have m9 : w3.cell? ⟨g, 9, none⟩ = some (.int .i64 s) := by rw [Lib.cell_of_heap (HK.out _ hb3)]; rfl
  cases B2
  case false =>
    as_aux_lemma =>
    rw [Bool.false_and] at HV
    go_wp2
    go_ret
    exact ⟨by rw [HV.out]; rfl, by rw [HG.out]; exact HB.out _ hb3⟩
  rw [Bool.true_and] at HV
  go_wp2_with (fail)
  refine (H3.out _).mono ?_
  rintro e w4 ⟨rfl, hx⟩
  have hb4 := hb3.trans (hx.mono hb3.size)
  clear hx m0 m1 m2 m3 m4 m8 m9
  have m0 : w4.cell? ⟨g, 0, none⟩ = some (.int .i64 1) := by rw [Lib.cell_of_heap (HK.out _ hb4)]; rfl
  have m1 : w4.cell? ⟨g, 1, none⟩ = some (.int .i64 l) := by rw [Lib.cell_of_heap (HK.out _ hb4)]; rfl
  have m2 : w4.cell? ⟨g, 2, none⟩ = some (.int .i64 z1) := by rw [Lib.cell_of_heap (HK.out _ hb4)]; rfl
  have m3 : w4.cell? ⟨g, 3, none⟩ = some (.int .i64 z2) := by rw [Lib.cell_of_heap (HK.out _ hb4)]; rfl
  have m4 : w4.cell? ⟨g, 4, none⟩ = some (.int .i64 p) := by rw [Lib.cell_of_heap (HK.out _ hb4)]; rfl
  have m8 : w4.cell? ⟨g, 8, none⟩ = some (.int .i64 r) := by rw [Lib.cell_of_heap (HK.out _ hb4)]; rfl
  have m9 : w4.cell? ⟨g, 9, none⟩ = some (.int .i64 s) := by rw [Lib.cell_of_heap (HK.out _ hb4)]; rfl
  cases B3
  case false =>
    as_aux_lemma =>
    rw [Bool.false_and] at HV
    go_wp2
    go_ret
    exact ⟨by rw [HV.out]; rfl, by rw [HG.out]; exact HB.out _ hb4⟩
  rw [Bool.true_and] at HV
  go_wp2_with (fail)
  refine (H4.out _).mono ?_
  rintro e w5 ⟨rfl, hx⟩
  have hb5 := hb4.trans (hx.mono hb4.size)
  clear hx m0 m1 m2 m3 m4 m8 m9
  have m0 : w5.cell? ⟨g, 0, none⟩ = some (.int .i64 1) := by rw [Lib.cell_of_heap (HK.out _ hb5)]; rfl
  have m1 : w5.cell? ⟨g, 1, none⟩ = some (.int .i64 l) := by rw [Lib.cell_of_heap (HK.out _ hb5)]; rfl
  have m2 : w5.cell? ⟨g, 2, none⟩ = some (.int .i64 z1) := by rw [Lib.cell_of_heap (HK.out _ hb5)]; rfl
  have m3 : w5.cell? ⟨g, 3, none⟩ = some (.int .i64 z2) := by rw [Lib.cell_of_heap (HK.out _ hb5)]; rfl
  have m4 : w5.cell? ⟨g, 4, none⟩ = some (.int .i64 p) := by rw [Lib.cell_of_heap (HK.out _ hb5)]; rfl
  have m8 : w5.cell? ⟨g, 8, none⟩ = some (.int .i64 r) := by rw [Lib.cell_of_heap (HK.out _ hb5)]; rfl
  have m9 : w5.cell? ⟨g, 9, none⟩ = some (.int .i64 s) := by rw [Lib.cell_of_heap (HK.out _ hb5)]; rfl
  go_wp2
  go_ret
  exact ⟨by rw [HV.out]; rfl, by rw [HG.out]; exact HB.out _ hb5⟩
theorem info_same (k p o : Int) (z : Int × Int) : infoB k p o z = ((decide ((1 : Int) ≤ k) && decide (k ≤ 7)) && (inB p && (inB o && (zxB z)))) := by
  unfold infoB zxB 
  simp [withinB, inB, Bool.and_assoc, Bool.and_comm, Bool.and_left_comm]
set_option maxRecDepth 100000 in
set_option maxHeartbeats 4000000 in
theorem refRight_info (k p o : Int) (z : Int × Int) (w : World) : Calls Try.prog 58 #[msgV (plM (.info k p o z)) none 0] w fun e w' => e = .returned (.bool (infoB k p o z)) ∧ Below w.heap.size w w' := by
  have HV := Lib.hid (info_same k p o z)
  generalize infoB k p o z = V at HV ⊢
  have H0 := Lib.hid (fun X => refIn_any k 1 7 X)
  generalize (decide ((1 : Int) ≤ k) && decide (k ≤ 7)) = B0 at *
  have H1 := Lib.hid (fun X => refNumber_any p X)
  generalize inB p = B1 at *
  have H2 := Lib.hid (fun X => refNumber_any o X)
  generalize inB o = B2 at *
  have H3 := Lib.hid (fun X => refZxid_any z X)
  generalize zxB z = B3 at *
  obtain ⟨z1, z2⟩ := z
  unfold zxidV at H3
  simp only at H3
  unfold msgV msgCells plM
  simp only [List.length_nil]
  obtain ⟨W, hW⟩ : ∃ X, X = w.alloc (.cells #[.int .i64 2, .int .i64 0, .int .i64 z1, .int .i64 z2, .int .i64 p, .int .i64 o, .int .i64 0, .int .i64 0, .int .i64 0, .int .i64 0, .int .i64 k, .string (bs []), .slice none 0 0, .bool false, .int .i64 0, .int .i64 0, .int .i64 0] 51) := ⟨_, rfl⟩
  have hB : Below w.heap.size w W := by rw [hW]; exact alloc_below w _
  have hk : W.heap[w.heap.size]? = some (.cells #[.int .i64 2, .int .i64 0, .int .i64 z1, .int .i64 z2, .int .i64 p, .int .i64 o, .int .i64 0, .int .i64 0, .int .i64 0, .int .i64 0, .int .i64 k, .string (bs []), .slice none 0 0, .bool false, .int .i64 0, .int .i64 0, .int .i64 0] 51 (0, 0)) := by rw [hW]; exact heap_alloc_new w _
  have HK := Lib.hid (fun X (hX : Below W.heap.size W X) => Grew.at_ hX hk)
  have HWe := Lib.hid hW
  have HB : Hid (∀ X, Below W.heap.size W X → Below w.heap.size w X) := fun X hX => hB.trans (hX.mono hB.size)
  clear hW hk hB
  go_enter Try.func58, Try.ntmps58
  go_upto_region 1 with (fail)
  rw [← HWe.out]
  clear HWe
  generalize hg : w.heap.size = g at *
  have HG := Lib.hid hg
  clear hg
  have hb0 := Below.refl W.heap.size W
  have m0 : W.cell? ⟨g, 0, none⟩ = some (.int .i64 2) := by rw [Lib.cell_of_heap (HK.out _ hb0)]; rfl
  have m2 : W.cell? ⟨g, 2, none⟩ = some (.int .i64 z1) := by rw [Lib.cell_of_heap (HK.out _ hb0)]; rfl
  have m3 : W.cell? ⟨g, 3, none⟩ = some (.int .i64 z2) := by rw [Lib.cell_of_heap (HK.out _ hb0)]; rfl
  have m4 : W.cell? ⟨g, 4, none⟩ = some (.int .i64 p) := by rw [Lib.cell_of_heap (HK.out _ hb0)]; rfl
  have m5 : W.cell? ⟨g, 5, none⟩ = some (.int .i64 o) := by rw [Lib.cell_of_heap (HK.out _ hb0)]; rfl
  have m10 : W.cell? ⟨g, 10, none⟩ = some (.int .i64 k) := by rw [Lib.cell_of_heap (HK.out _ hb0)]; rfl
  go_wp2_with (fail)
  refine (H0.out _).mono ?_
  rintro e w1 ⟨rfl, hx⟩
  have hb1 := hb0.trans (hx.mono hb0.size)
  clear hx m0 m2 m3 m4 m5 m10
  have m0 : w1.cell? ⟨g, 0, none⟩ = some (.int .i64 2) := by rw [Lib.cell_of_heap (HK.out _ hb1)]; rfl
  have m2 : w1.cell? ⟨g, 2, none⟩ = some (.int .i64 z1) := by rw [Lib.cell_of_heap (HK.out _ hb1)]; rfl
  have m3 : w1.cell? ⟨g, 3, none⟩ = some (.int .i64 z2) := by rw [Lib.cell_of_heap (HK.out _ hb1)]; rfl
  have m4 : w1.cell? ⟨g, 4, none⟩ = some (.int .i64 p) := by rw [Lib.cell_of_heap (HK.out _ hb1)]; rfl
  have m5 : w1.cell? ⟨g, 5, none⟩ = some (.int .i64 o) := by rw [Lib.cell_of_heap (HK.out _ hb1)]; rfl
  have m10 : w1.cell? ⟨g, 10, none⟩ = some (.int .i64 k) := by rw [Lib.cell_of_heap (HK.out _ hb1)]; rfl
  cases B0
  case false =>
    as_aux_lemma =>
    rw [Bool.false_and] at HV
    go_wp2
    go_ret
    exact ⟨by rw [HV.out]; rfl, by rw [HG.out]; exact HB.out _ hb1⟩
  rw [Bool.true_and] at HV
  go_wp2_with (fail)
  refine (H1.out _).mono ?_
  rintro e w2 ⟨rfl, hx⟩
  have hb2 := hb1.trans (hx.mono hb1.size)
  clear hx m0 m2 m3 m4 m5 m10
  have m0 : w2.cell? ⟨g, 0, none⟩ = some (.int .i64 2) := by rw [Lib.cell_of_heap (HK.out _ hb2)]; rfl
  have m2 : w2.cell? ⟨g, 2, none⟩ = some (.int .i64 z1) := by rw [Lib.cell_of_heap (HK.out _ hb2)]; rfl
  have m3 : w2.cell? ⟨g, 3, none⟩ = some (.int .i64 z2) := by rw [Lib.cell_of_heap (HK.out _ hb2)]; rfl
  have m4 : w2.cell? ⟨g, 4, none⟩ = some (.int .i64 p) := by rw [Lib.cell_of_heap (HK.out _ hb2)]; rfl
  have m5 : w2.cell? ⟨g, 5, none⟩ = some (.int .i64 o) := by rw [Lib.cell_of_heap (HK.out _ hb2)]; rfl
  have m10 : w2.cell? ⟨g, 10, none⟩ = some (.int .i64 k) := by rw [Lib.cell_of_heap (HK.out _ hb2)]; rfl
  cases B1
  case false =>
    as_aux_lemma =>
    rw [Bool.false_and] at HV
    go_wp2
    go_ret
    exact ⟨by rw [HV.out]; rfl, by rw [HG.out]; exact HB.out _ hb2⟩
  rw [Bool.true_and] at HV
  go_wp2_with (fail)
  refine (H2.out _).mono ?_
  rintro e w3 ⟨rfl, hx⟩
  have hb3 := hb2.trans (hx.mono hb2.size)
  clear hx m0 m2 m3 m4 m5 m10
  have m0 : w3.cell? ⟨g, 0, none⟩ = some (.int .i64 2) := by rw [Lib.cell_of_heap (HK.out _ hb3)]; rfl
  have m2 : w3.cell? ⟨g, 2, none⟩ = some (.int .i64 z1) := by rw [Lib.cell_of_heap (HK.out _ hb3)]; rfl
  have m3 : w3.cell? ⟨g, 3, none⟩ = some (.int .i64 z2) := by rw [Lib.cell_of_heap (HK.out _ hb3)]; rfl
  have m4 : w3.cell? ⟨g, 4, none⟩ = some (.int .i64 p) := by rw [Lib.cell_of_heap (HK.out _ hb3)]; rfl
  have m5 : w3.cell? ⟨g, 5, none⟩ = some (.int .i64 o) := by rw [Lib.cell_of_heap (HK.out _ hb3)]; rfl
  have m10 : w3.cell? ⟨g, 10, none⟩ = some (.int .i64 k) := by rw [Lib.cell_of_heap (HK.out _ hb3)]; rfl
  cases B2
  case false =>
    as_aux_lemma =>
    rw [Bool.false_and] at HV
    go_wp2
    go_ret
    exact ⟨by rw [HV.out]; rfl, by rw [HG.out]; exact HB.out _ hb3⟩
  rw [Bool.true_and] at HV
  go_wp2_with (fail)
  refine (H3.out _).mono ?_
  rintro e w4 ⟨rfl, hx⟩
  have hb4 := hb3.trans (hx.mono hb3.size)
  clear hx m0 m2 m3 m4 m5 m10
  have m0 : w4.cell? ⟨g, 0, none⟩ = some (.int .i64 2) := by rw [Lib.cell_of_heap (HK.out _ hb4)]; rfl
  have m2 : w4.cell? ⟨g, 2, none⟩ = some (.int .i64 z1) := by rw [Lib.cell_of_heap (HK.out _ hb4)]; rfl
  have m3 : w4.cell? ⟨g, 3, none⟩ = some (.int .i64 z2) := by rw [Lib.cell_of_heap (HK.out _ hb4)]; rfl
  have m4 : w4.cell? ⟨g, 4, none⟩ = some (.int .i64 p) := by rw [Lib.cell_of_heap (HK.out _ hb4)]; rfl
  have m5 : w4.cell? ⟨g, 5, none⟩ = some (.int .i64 o) := by rw [Lib.cell_of_heap (HK.out _ hb4)]; rfl
  have m10 : w4.cell? ⟨g, 10, none⟩ = some (.int .i64 k) := by rw [Lib.cell_of_heap (HK.out _ hb4)]; rfl
  go_wp2
  go_ret
  exact ⟨by rw [HV.out]; rfl, by rw [HG.out]; exact HB.out _ hb4⟩
set_option maxRecDepth 100000 in
set_option maxHeartbeats 4000000 in
theorem refRight_ack (f : Bool) (z : Int × Int) (w : World) : Calls Try.prog 58 #[msgV (plM (.ack f z)) none 0] w fun e w' => e = .returned (.bool (zxB z)) ∧ Below w.heap.size w w' := by
  obtain ⟨V, hV⟩ : ∃ V, V = zxB z := ⟨_, rfl⟩
  rw [← hV]
  have HV := Lib.hid hV
  clear hV
  have H0 := Lib.hid (fun X => refZxid_any z X)
  generalize zxB z = B0 at *
  obtain ⟨z1, z2⟩ := z
  unfold zxidV at H0
  simp only at H0
  unfold msgV msgCells plM
  simp only [List.length_nil]
  obtain ⟨W, hW⟩ : ∃ X, X = w.alloc (.cells #[.int .i64 5, .int .i64 0, .int .i64 z1, .int .i64 z2, .int .i64 0, .int .i64 0, .int .i64 0, .int .i64 0, .int .i64 0, .int .i64 0, .int .i64 0, .string (bs []), .slice none 0 0, .bool f, .int .i64 0, .int .i64 0, .int .i64 0] 51) := ⟨_, rfl⟩
  have hB : Below w.heap.size w W := by rw [hW]; exact alloc_below w _
  have hk : W.heap[w.heap.size]? = some (.cells #[.int .i64 5, .int .i64 0, .int .i64 z1, .int .i64 z2, .int .i64 0, .int .i64 0, .int .i64 0, .int .i64 0, .int .i64 0, .int .i64 0, .int .i64 0, .string (bs []), .slice none 0 0, .bool f, .int .i64 0, .int .i64 0, .int .i64 0] 51 (0, 0)) := by rw [hW]; exact heap_alloc_new w _
  have HK := Lib.hid (fun X (hX : Below W.heap.size W X) => Grew.at_ hX hk)
  have HWe := Lib.hid hW
  have HB : Hid (∀ X, Below W.heap.size W X → Below w.heap.size w X) := fun X hX => hB.trans (hX.mono hB.size)
  clear hW hk hB
  go_enter Try.func58, Try.ntmps58
  go_upto_region 1 with (fail)
  rw [← HWe.out]
  clear HWe
  generalize hg : w.heap.size = g at *
  have HG := Lib.hid hg
  clear hg
  have hb0 := Below.refl W.heap.size W
  have m0 : W.cell? ⟨g, 0, none⟩ = some (.int .i64 5) := by rw [Lib.cell_of_heap (HK.out _ hb0)]; rfl
  have m2 : W.cell? ⟨g, 2, none⟩ = some (.int .i64 z1) := by rw [Lib.cell_of_heap (HK.out _ hb0)]; rfl
  have m3 : W.cell? ⟨g, 3, none⟩ = some (.int .i64 z2) := by rw [Lib.cell_of_heap (HK.out _ hb0)]; rfl
  have m13 : W.cell? ⟨g, 13, none⟩ = some (.bool f) := by rw [Lib.cell_of_heap (HK.out _ hb0)]; rfl
  go_wp2_with (fail)
  refine (H0.out _).mono ?_
  rintro e w1 ⟨rfl, hx⟩
  have hb1 := hb0.trans (hx.mono hb0.size)
  clear hx m0 m2 m3 m13
  have m0 : w1.cell? ⟨g, 0, none⟩ = some (.int .i64 5) := by rw [Lib.cell_of_heap (HK.out _ hb1)]; rfl
  have m2 : w1.cell? ⟨g, 2, none⟩ = some (.int .i64 z1) := by rw [Lib.cell_of_heap (HK.out _ hb1)]; rfl
  have m3 : w1.cell? ⟨g, 3, none⟩ = some (.int .i64 z2) := by rw [Lib.cell_of_heap (HK.out _ hb1)]; rfl
  have m13 : w1.cell? ⟨g, 13, none⟩ = some (.bool f) := by rw [Lib.cell_of_heap (HK.out _ hb1)]; rfl
  go_wp2
  go_ret
  exact ⟨by rw [HV.out]; rfl, by rw [HG.out]; exact HB.out _ hb1⟩
theorem ask_same (n c q : Int) : withinB [n, c, q] = (inB n && (inB c && (inB q))) := by
  unfold withinB 
  simp [inB, Bool.and_assoc, Bool.and_comm, Bool.and_left_comm]
set_option maxRecDepth 100000 in
set_option maxHeartbeats 4000000 in
theorem refRight_ask (n c q : Int) (f : Bool) (b : List UInt8) (w : World) : Calls Try.prog 58 #[msgV (plM (.ask n c q f b)) none 0] w fun e w' => e = .returned (.bool (withinB [n, c, q])) ∧ Below w.heap.size w w' := by
  have HV := Lib.hid (ask_same n c q)
  generalize withinB [n, c, q] = V at HV ⊢
  have H0 := Lib.hid (fun X => refNumber_any n X)
  generalize inB n = B0 at *
  have H1 := Lib.hid (fun X => refNumber_any c X)
  generalize inB c = B1 at *
  have H2 := Lib.hid (fun X => refNumber_any q X)
  generalize inB q = B2 at *
  unfold msgV msgCells plM
  simp only [List.length_nil]
  obtain ⟨W, hW⟩ : ∃ X, X = w.alloc (.cells #[.int .i64 6, .int .i64 0, .int .i64 0, .int .i64 0, .int .i64 0, .int .i64 0, .int .i64 0, .int .i64 0, .int .i64 0, .int .i64 0, .int .i64 0, .string (bs b), .slice none 0 0, .bool f, .int .i64 n, .int .i64 c, .int .i64 q] 51) := ⟨_, rfl⟩
  have hB : Below w.heap.size w W := by rw [hW]; exact alloc_below w _
  have hk : W.heap[w.heap.size]? = some (.cells #[.int .i64 6, .int .i64 0, .int .i64 0, .int .i64 0, .int .i64 0, .int .i64 0, .int .i64 0, .int .i64 0, .int .i64 0, .int .i64 0, .int .i64 0, .string (bs b), .slice none 0 0, .bool f, .int .i64 n, .int .i64 c, .int .i64 q] 51 (0, 0)) := by rw [hW]; exact heap_alloc_new w _
  have HK := Lib.hid (fun X (hX : Below W.heap.size W X) => Grew.at_ hX hk)
  have HWe := Lib.hid hW
  have HB : Hid (∀ X, Below W.heap.size W X → Below w.heap.size w X) := fun X hX => hB.trans (hX.mono hB.size)
  clear hW hk hB
  go_enter Try.func58, Try.ntmps58
  go_upto_region 1 with (fail)
  rw [← HWe.out]
  clear HWe
  generalize hg : w.heap.size = g at *
  have HG := Lib.hid hg
  clear hg
  have hb0 := Below.refl W.heap.size W
  have m0 : W.cell? ⟨g, 0, none⟩ = some (.int .i64 6) := by rw [Lib.cell_of_heap (HK.out _ hb0)]; rfl
  have m11 : W.cell? ⟨g, 11, none⟩ = some (.string (bs b)) := by rw [Lib.cell_of_heap (HK.out _ hb0)]; rfl
  have m13 : W.cell? ⟨g, 13, none⟩ = some (.bool f) := by rw [Lib.cell_of_heap (HK.out _ hb0)]; rfl
  have m14 : W.cell? ⟨g, 14, none⟩ = some (.int .i64 n) := by rw [Lib.cell_of_heap (HK.out _ hb0)]; rfl
  have m15 : W.cell? ⟨g, 15, none⟩ = some (.int .i64 c) := by rw [Lib.cell_of_heap (HK.out _ hb0)]; rfl
  have m16 : W.cell? ⟨g, 16, none⟩ = some (.int .i64 q) := by rw [Lib.cell_of_heap (HK.out _ hb0)]; rfl
  go_wp2_with (fail)
  refine (H0.out _).mono ?_
  rintro e w1 ⟨rfl, hx⟩
  have hb1 := hb0.trans (hx.mono hb0.size)
  clear hx m0 m11 m13 m14 m15 m16
  have m0 : w1.cell? ⟨g, 0, none⟩ = some (.int .i64 6) := by rw [Lib.cell_of_heap (HK.out _ hb1)]; rfl
  have m11 : w1.cell? ⟨g, 11, none⟩ = some (.string (bs b)) := by rw [Lib.cell_of_heap (HK.out _ hb1)]; rfl
  have m13 : w1.cell? ⟨g, 13, none⟩ = some (.bool f) := by rw [Lib.cell_of_heap (HK.out _ hb1)]; rfl
  have m14 : w1.cell? ⟨g, 14, none⟩ = some (.int .i64 n) := by rw [Lib.cell_of_heap (HK.out _ hb1)]; rfl
  have m15 : w1.cell? ⟨g, 15, none⟩ = some (.int .i64 c) := by rw [Lib.cell_of_heap (HK.out _ hb1)]; rfl
  have m16 : w1.cell? ⟨g, 16, none⟩ = some (.int .i64 q) := by rw [Lib.cell_of_heap (HK.out _ hb1)]; rfl
  cases B0
  case false =>
    as_aux_lemma =>
    rw [Bool.false_and] at HV
    go_wp2
    go_ret
    exact ⟨by rw [HV.out]; rfl, by rw [HG.out]; exact HB.out _ hb1⟩
  rw [Bool.true_and] at HV
  go_wp2_with (fail)
  refine (H1.out _).mono ?_
  rintro e w2 ⟨rfl, hx⟩
  have hb2 := hb1.trans (hx.mono hb1.size)
  clear hx m0 m11 m13 m14 m15 m16
  have m0 : w2.cell? ⟨g, 0, none⟩ = some (.int .i64 6) := by rw [Lib.cell_of_heap (HK.out _ hb2)]; rfl
  have m11 : w2.cell? ⟨g, 11, none⟩ = some (.string (bs b)) := by rw [Lib.cell_of_heap (HK.out _ hb2)]; rfl
  have m13 : w2.cell? ⟨g, 13, none⟩ = some (.bool f) := by rw [Lib.cell_of_heap (HK.out _ hb2)]; rfl
  have m14 : w2.cell? ⟨g, 14, none⟩ = some (.int .i64 n) := by rw [Lib.cell_of_heap (HK.out _ hb2)]; rfl
  have m15 : w2.cell? ⟨g, 15, none⟩ = some (.int .i64 c) := by rw [Lib.cell_of_heap (HK.out _ hb2)]; rfl
  have m16 : w2.cell? ⟨g, 16, none⟩ = some (.int .i64 q) := by rw [Lib.cell_of_heap (HK.out _ hb2)]; rfl
  cases B1
  case false =>
    as_aux_lemma =>
    rw [Bool.false_and] at HV
    go_wp2
    go_ret
    exact ⟨by rw [HV.out]; rfl, by rw [HG.out]; exact HB.out _ hb2⟩
  rw [Bool.true_and] at HV
  go_wp2_with (fail)
  refine (H2.out _).mono ?_
  rintro e w3 ⟨rfl, hx⟩
  have hb3 := hb2.trans (hx.mono hb2.size)
  clear hx m0 m11 m13 m14 m15 m16
  have m0 : w3.cell? ⟨g, 0, none⟩ = some (.int .i64 6) := by rw [Lib.cell_of_heap (HK.out _ hb3)]; rfl
  have m11 : w3.cell? ⟨g, 11, none⟩ = some (.string (bs b)) := by rw [Lib.cell_of_heap (HK.out _ hb3)]; rfl
  have m13 : w3.cell? ⟨g, 13, none⟩ = some (.bool f) := by rw [Lib.cell_of_heap (HK.out _ hb3)]; rfl
  have m14 : w3.cell? ⟨g, 14, none⟩ = some (.int .i64 n) := by rw [Lib.cell_of_heap (HK.out _ hb3)]; rfl
  have m15 : w3.cell? ⟨g, 15, none⟩ = some (.int .i64 c) := by rw [Lib.cell_of_heap (HK.out _ hb3)]; rfl
  have m16 : w3.cell? ⟨g, 16, none⟩ = some (.int .i64 q) := by rw [Lib.cell_of_heap (HK.out _ hb3)]; rfl
  go_wp2
  go_ret
  exact ⟨by rw [HV.out]; rfl, by rw [HG.out]; exact HB.out _ hb3⟩
set_option maxRecDepth 100000 in
set_option maxHeartbeats 4000000 in
theorem refRight_prop (x : Ent) (a : Option Addr) (cap : Nat) (w : World) (hE : EntsIn w a cap [x]) : Calls Try.prog 58 #[msgV (plM (.prop x)) a cap] w fun e w' => e = .returned (.bool (zxE x)) ∧ Below w.heap.size w w' := by
  have H0 : Hid (∀ X, Calls Try.prog 74 #[.agg #[.int .i64 x.e, .int .i64 x.c]] X fun e w' => e = .returned (.bool (zxE x)) ∧ Below X.heap.size X w') := fun X => refZxid_any (x.e, x.c) X
  generalize zxE x = V at *
  have hlc := hE.1
  simp only [List.length_cons, List.length_nil, Nat.zero_add] at hlc
  obtain ⟨bb, off, rfl, _⟩ := ents_get hE.2.2.1 0 (by simp)
  unfold msgV msgCells plM
  simp only [List.length_nil, List.length_cons, Nat.zero_add]
  obtain ⟨W, hW⟩ : ∃ X, X = w.alloc (.cells #[.int .i64 4, .int .i64 0, .int .i64 0, .int .i64 0, .int .i64 0, .int .i64 0, .int .i64 0, .int .i64 0, .int .i64 0, .int .i64 0, .int .i64 0, .string (bs []), .slice (some ⟨bb, off, none⟩) 1 cap, .bool false, .int .i64 0, .int .i64 0, .int .i64 0] 51) := ⟨_, rfl⟩
  have hB : Below w.heap.size w W := by rw [hW]; exact alloc_below w _
  have hk : W.heap[w.heap.size]? = some (.cells #[.int .i64 4, .int .i64 0, .int .i64 0, .int .i64 0, .int .i64 0, .int .i64 0, .int .i64 0, .int .i64 0, .int .i64 0, .int .i64 0, .int .i64 0, .string (bs []), .slice (some ⟨bb, off, none⟩) 1 cap, .bool false, .int .i64 0, .int .i64 0, .int .i64 0] 51 (0, 0)) := by rw [hW]; exact heap_alloc_new w _
  have HK := Lib.hid (fun X (hX : Below W.heap.size W X) => Grew.at_ hX hk)
  have HE := Lib.hid (fun X (hX : Below W.heap.size W X) => (hE.grew hB).grew hX)
  have HWe := Lib.hid hW
  have HB : Hid (∀ X, Below W.heap.size W X → Below w.heap.size w X) := fun X hX => hB.trans (hX.mono hB.size)
  clear hW hk hB hE
  go_enter Try.func58, Try.ntmps58
  go_upto_region 1 with (fail)
  rw [← HWe.out]
  clear HWe
  generalize hg : w.heap.size = g at *
  have HG := Lib.hid hg
  clear hg
  have hb0 := Below.refl W.heap.size W
  obtain ⟨_, _, hba, e0, e1, e2⟩ := ents_get (HE.out _ hb0).2.2.1 0 (by simp)
  simp only [Option.some.injEq, Addr.mk.injEq] at hba
  obtain ⟨rfl, rfl, _⟩ := hba
  simp only [Nat.zero_mul, Nat.add_zero, List.getElem_cons_zero] at e0 e1 e2
  have m0 : W.cell? ⟨g, 0, none⟩ = some (.int .i64 4) := by rw [Lib.cell_of_heap (HK.out _ hb0)]; rfl
  have m12 : W.cell? ⟨g, 12, none⟩ = some (.slice (some ⟨bb, off, none⟩) 1 cap) := by rw [Lib.cell_of_heap (HK.out _ hb0)]; rfl
  go_wp2_with (fail)
  refine (H0.out _).mono ?_
  rintro e w1 ⟨rfl, hx⟩
  go_wp2
  go_ret
  exact ⟨rfl, by rw [HG.out]; exact HB.out _ hx⟩
theorem sync_same (k p : Int) (f z : Int × Int) (b : List UInt8) (L : List Ent) : syncB k p f z b L = (allE L && ((decide ((1 : Int) ≤ k) && decide (k ≤ 3)) && (inB p && (zxB f && (zxB z && (decide (L.length ≤ 1000) && (decide (k = 3) || decide (b = [])))))))) := by
  unfold syncB
  rw [show withinB [p] = inB p by simp [withinB]]
  cases allE L <;> simp [Bool.and_assoc]
set_option maxRecDepth 100000 in
set_option maxHeartbeats 4000000 in
theorem refRight_sync (k p : Int) (f z : Int × Int) (b : List UInt8) (L : List Ent) (a : Option Addr) (cap : Nat) (w : World) (hE : EntsIn w a cap L) (hbl : b.length ≤ maxLen) : Calls Try.prog 58 #[msgV (plM (.sync k p f z b L)) a cap] w fun e w' => e = .returned (.bool (syncB k p f z b L)) ∧ Below w.heap.size w w' := by
  have HV := Lib.hid (sync_same k p f z b L)
  generalize syncB k p f z b L = V at *
  have HA : Hid (allE L = allE L) := rfl
  have H0 := Lib.hid (fun X => refIn_any k 1 3 X)
  generalize (decide ((1 : Int) ≤ k) && decide (k ≤ 3)) = B0 at *
  have H1 := Lib.hid (fun X => refNumber_any p X)
  generalize inB p = B1 at *
  have H2 := Lib.hid (fun X => refZxid_any f X)
  generalize zxB f = B2 at *
  have H3 := Lib.hid (fun X => refZxid_any z X)
  generalize zxB z = B3 at *
  have HXE : Hid (∀ (x : Ent) X, Calls Try.prog 74 #[.agg #[.int .i64 x.e, .int .i64 x.c]] X fun e w' => e = .returned (.bool (zxE x)) ∧ Below X.heap.size X w') := fun x X => refZxid_any (x.e, x.c) X
  obtain ⟨f1, f2⟩ := f
  obtain ⟨z1, z2⟩ := z
  unfold zxidV at H2 H3
  simp only at H2 H3
  have hll := Nat.le_trans hE.1 hE.2.1
  unfold maxLen at hll hbl
  unfold msgV msgCells plM
  simp only
  obtain ⟨W, hW⟩ : ∃ X, X = w.alloc (.cells #[.int .i64 3, .int .i64 0, .int .i64 z1, .int .i64 z2, .int .i64 p, .int .i64 0, .int .i64 f1, .int .i64 f2, .int .i64 0, .int .i64 0, .int .i64 k, .string (bs b), .slice a L.length cap, .bool false, .int .i64 0, .int .i64 0, .int .i64 0] 51) := ⟨_, rfl⟩
  have hB : Below w.heap.size w W := by rw [hW]; exact alloc_below w _
  have hk : W.heap[w.heap.size]? = some (.cells #[.int .i64 3, .int .i64 0, .int .i64 z1, .int .i64 z2, .int .i64 p, .int .i64 0, .int .i64 f1, .int .i64 f2, .int .i64 0, .int .i64 0, .int .i64 k, .string (bs b), .slice a L.length cap, .bool false, .int .i64 0, .int .i64 0, .int .i64 0] 51 (0, 0)) := by rw [hW]; exact heap_alloc_new w _
  have HK := Lib.hid (fun X (hX : Below W.heap.size W X) => Grew.at_ hX hk)
  have HE := Lib.hid (fun X (hX : Below W.heap.size W X) => (hE.grew hB).grew hX)
  have HWe := Lib.hid hW
  have HB : Hid (∀ X, Below W.heap.size W X → Below w.heap.size w X) := fun X hX => hB.trans (hX.mono hB.size)
  clear hW hk hB hE
  go_enter Try.func58, Try.ntmps58
  go_upto_region 1 with (fail)
  rw [← HWe.out]
  clear HWe
  generalize hg : w.heap.size = g at *
  have HG := Lib.hid hg
  clear hg
  have hb0 := Below.refl W.heap.size W
  have m0 : W.cell? ⟨g, 0, none⟩ = some (.int .i64 3) := by rw [Lib.cell_of_heap (HK.out _ hb0)]; rfl
  have m2 : W.cell? ⟨g, 2, none⟩ = some (.int .i64 z1) := by rw [Lib.cell_of_heap (HK.out _ hb0)]; rfl
  have m3 : W.cell? ⟨g, 3, none⟩ = some (.int .i64 z2) := by rw [Lib.cell_of_heap (HK.out _ hb0)]; rfl
  have m4 : W.cell? ⟨g, 4, none⟩ = some (.int .i64 p) := by rw [Lib.cell_of_heap (HK.out _ hb0)]; rfl
  have m6 : W.cell? ⟨g, 6, none⟩ = some (.int .i64 f1) := by rw [Lib.cell_of_heap (HK.out _ hb0)]; rfl
  have m7 : W.cell? ⟨g, 7, none⟩ = some (.int .i64 f2) := by rw [Lib.cell_of_heap (HK.out _ hb0)]; rfl
  have m10 : W.cell? ⟨g, 10, none⟩ = some (.int .i64 k) := by rw [Lib.cell_of_heap (HK.out _ hb0)]; rfl
  have m11 : W.cell? ⟨g, 11, none⟩ = some (.string (bs b)) := by rw [Lib.cell_of_heap (HK.out _ hb0)]; rfl
  have m12 : W.cell? ⟨g, 12, none⟩ = some (.slice a L.length cap) := by rw [Lib.cell_of_heap (HK.out _ hb0)]; rfl
  go_wp2_with (fail)
  go_loopw [3] (fun v3 wr => ∃ (i : Nat), v3 = .int .i64 (i : Int) ∧ i ≤ L.length ∧ Hid (allE (L.take i) = true) ∧ Below W.heap.size W wr) (fun v3 _ => L.length - (intOf v3).toNat)
  case atStart => exact ⟨0, rfl, by omega, by show _ = _; simp [allE], hb0⟩
  case round =>
    obtain ⟨i, rfl, hi, hw, hb⟩ := hrel
    clear m0 m2 m3 m4 m6 m7 m10 m11 m12
    have m0 : wr.cell? ⟨g, 0, none⟩ = some (.int .i64 3) := by rw [Lib.cell_of_heap (HK.out _ hb)]; rfl
    have m2 : wr.cell? ⟨g, 2, none⟩ = some (.int .i64 z1) := by rw [Lib.cell_of_heap (HK.out _ hb)]; rfl
    have m3 : wr.cell? ⟨g, 3, none⟩ = some (.int .i64 z2) := by rw [Lib.cell_of_heap (HK.out _ hb)]; rfl
    have m4 : wr.cell? ⟨g, 4, none⟩ = some (.int .i64 p) := by rw [Lib.cell_of_heap (HK.out _ hb)]; rfl
    have m6 : wr.cell? ⟨g, 6, none⟩ = some (.int .i64 f1) := by rw [Lib.cell_of_heap (HK.out _ hb)]; rfl
    have m7 : wr.cell? ⟨g, 7, none⟩ = some (.int .i64 f2) := by rw [Lib.cell_of_heap (HK.out _ hb)]; rfl
    have m10 : wr.cell? ⟨g, 10, none⟩ = some (.int .i64 k) := by rw [Lib.cell_of_heap (HK.out _ hb)]; rfl
    have m11 : wr.cell? ⟨g, 11, none⟩ = some (.string (bs b)) := by rw [Lib.cell_of_heap (HK.out _ hb)]; rfl
    have m12 : wr.cell? ⟨g, 12, none⟩ = some (.slice a L.length cap) := by rw [Lib.cell_of_heap (HK.out _ hb)]; rfl
    by_cases hp : i < L.length
    · obtain ⟨bb, off, rfl, e0, e1, e2⟩ := ents_get (HE.out _ hb).2.2.1 i hp
      have HP := Lib.hid (fun X => HXE.out L[i] X)
      by_cases hz : zxE L[i] = true
      · as_aux_lemma =>
        have HW : Hid (allE (L.take (i + 1)) = true) := by show _ = _; rw [allE_take L i hp hw.out]; exact hz
        rw [hz] at HP
        generalize L[i] = x at *
        clear hz HE
        go_wp2_with (fail)
        refine (HP.out _).mono ?_
        rintro e w1 ⟨rfl, hb1⟩
        go_wp2
        go_roundw
        case rel => exact ⟨i + 1, by go_num, by omega, HW, hb.trans (hb1.mono hb.size)⟩
        case measure => simp [intOf]; omega
      · have hz' : zxE L[i] = false := by simpa using hz
        have hAf : allE L = false := by
          unfold allE
          rw [List.all_eq_false]
          exact ⟨L[i], List.getElem_mem hp, by simp [hz']⟩
        rw [hAf, Bool.false_and] at HV
        rw [hz'] at HP
        generalize L[i] = x at *
        clear hz hz' HE hAf
        go_wp2_with (fail)
        refine (HP.out _).mono ?_
        rintro e w1 ⟨rfl, hb1⟩
        go_wp2
        go_ret
        exact ⟨by rw [HV.out]; rfl, by rw [HG.out]; exact HB.out _ (hb.trans (hb1.mono hb.size))⟩
    · have hAt : allE L = true := by have := hw.out; rw [List.take_of_length_le (by omega)] at this; exact this
      rw [hAt, Bool.true_and] at HV
      clear hAt HXE HA HE hw hb0
      go_wp2_with (fail)
      refine (H0.out _).mono ?_
      rintro e w1 ⟨rfl, hx⟩
      have hc1 := hb.trans (hx.mono hb.size)
      clear hx m0 m2 m3 m4 m6 m7 m10 m11 m12
      have m0 : w1.cell? ⟨g, 0, none⟩ = some (.int .i64 3) := by rw [Lib.cell_of_heap (HK.out _ hc1)]; rfl
      have m2 : w1.cell? ⟨g, 2, none⟩ = some (.int .i64 z1) := by rw [Lib.cell_of_heap (HK.out _ hc1)]; rfl
      have m3 : w1.cell? ⟨g, 3, none⟩ = some (.int .i64 z2) := by rw [Lib.cell_of_heap (HK.out _ hc1)]; rfl
      have m4 : w1.cell? ⟨g, 4, none⟩ = some (.int .i64 p) := by rw [Lib.cell_of_heap (HK.out _ hc1)]; rfl
      have m6 : w1.cell? ⟨g, 6, none⟩ = some (.int .i64 f1) := by rw [Lib.cell_of_heap (HK.out _ hc1)]; rfl
      have m7 : w1.cell? ⟨g, 7, none⟩ = some (.int .i64 f2) := by rw [Lib.cell_of_heap (HK.out _ hc1)]; rfl
      have m10 : w1.cell? ⟨g, 10, none⟩ = some (.int .i64 k) := by rw [Lib.cell_of_heap (HK.out _ hc1)]; rfl
      have m11 : w1.cell? ⟨g, 11, none⟩ = some (.string (bs b)) := by rw [Lib.cell_of_heap (HK.out _ hc1)]; rfl
      have m12 : w1.cell? ⟨g, 12, none⟩ = some (.slice a L.length cap) := by rw [Lib.cell_of_heap (HK.out _ hc1)]; rfl
      cases B0
      case false =>
        as_aux_lemma =>
        rw [Bool.false_and] at HV
        go_wp2
        go_ret
        exact ⟨by rw [HV.out]; rfl, by rw [HG.out]; exact HB.out _ hc1⟩
      rw [Bool.true_and] at HV
      go_wp2_with (fail)
      refine (H1.out _).mono ?_
      rintro e w2 ⟨rfl, hx⟩
      have hc2 := hc1.trans (hx.mono hc1.size)
      clear hx m0 m2 m3 m4 m6 m7 m10 m11 m12
      have m0 : w2.cell? ⟨g, 0, none⟩ = some (.int .i64 3) := by rw [Lib.cell_of_heap (HK.out _ hc2)]; rfl
      have m2 : w2.cell? ⟨g, 2, none⟩ = some (.int .i64 z1) := by rw [Lib.cell_of_heap (HK.out _ hc2)]; rfl
      have m3 : w2.cell? ⟨g, 3, none⟩ = some (.int .i64 z2) := by rw [Lib.cell_of_heap (HK.out _ hc2)]; rfl
      have m4 : w2.cell? ⟨g, 4, none⟩ = some (.int .i64 p) := by rw [Lib.cell_of_heap (HK.out _ hc2)]; rfl
      have m6 : w2.cell? ⟨g, 6, none⟩ = some (.int .i64 f1) := by rw [Lib.cell_of_heap (HK.out _ hc2)]; rfl
      have m7 : w2.cell? ⟨g, 7, none⟩ = some (.int .i64 f2) := by rw [Lib.cell_of_heap (HK.out _ hc2)]; rfl
      have m10 : w2.cell? ⟨g, 10, none⟩ = some (.int .i64 k) := by rw [Lib.cell_of_heap (HK.out _ hc2)]; rfl
      have m11 : w2.cell? ⟨g, 11, none⟩ = some (.string (bs b)) := by rw [Lib.cell_of_heap (HK.out _ hc2)]; rfl
      have m12 : w2.cell? ⟨g, 12, none⟩ = some (.slice a L.length cap) := by rw [Lib.cell_of_heap (HK.out _ hc2)]; rfl
      cases B1
      case false =>
        as_aux_lemma =>
        rw [Bool.false_and] at HV
        go_wp2
        go_ret
        exact ⟨by rw [HV.out]; rfl, by rw [HG.out]; exact HB.out _ hc2⟩
      rw [Bool.true_and] at HV
      go_wp2_with (fail)
      refine (H2.out _).mono ?_
      rintro e w3 ⟨rfl, hx⟩
      have hc3 := hc2.trans (hx.mono hc2.size)
      clear hx m0 m2 m3 m4 m6 m7 m10 m11 m12
      have m0 : w3.cell? ⟨g, 0, none⟩ = some (.int .i64 3) := by rw [Lib.cell_of_heap (HK.out _ hc3)]; rfl
      have m2 : w3.cell? ⟨g, 2, none⟩ = some (.int .i64 z1) := by rw [Lib.cell_of_heap (HK.out _ hc3)]; rfl
      have m3 : w3.cell? ⟨g, 3, none⟩ = some (.int .i64 z2) := by rw [Lib.cell_of_heap (HK.out _ hc3)]; rfl
      have m4 : w3.cell? ⟨g, 4, none⟩ = some (.int .i64 p) := by rw [Lib.cell_of_heap (HK.out _ hc3)]; rfl
      have m6 : w3.cell? ⟨g, 6, none⟩ = some (.int .i64 f1) := by rw [Lib.cell_of_heap (HK.out _ hc3)]; rfl
      have m7 : w3.cell? ⟨g, 7, none⟩ = some (.int .i64 f2) := by rw [Lib.cell_of_heap (HK.out _ hc3)]; rfl
      have m10 : w3.cell? ⟨g, 10, none⟩ = some (.int .i64 k) := by rw [Lib.cell_of_heap (HK.out _ hc3)]; rfl
      have m11 : w3.cell? ⟨g, 11, none⟩ = some (.string (bs b)) := by rw [Lib.cell_of_heap (HK.out _ hc3)]; rfl
      have m12 : w3.cell? ⟨g, 12, none⟩ = some (.slice a L.length cap) := by rw [Lib.cell_of_heap (HK.out _ hc3)]; rfl
      cases B2
      case false =>
        as_aux_lemma =>
        rw [Bool.false_and] at HV
        go_wp2
        go_ret
        exact ⟨by rw [HV.out]; rfl, by rw [HG.out]; exact HB.out _ hc3⟩
      rw [Bool.true_and] at HV
      go_wp2_with (fail)
      refine (H3.out _).mono ?_
      rintro e w4 ⟨rfl, hx⟩
      have hc4 := hc3.trans (hx.mono hc3.size)
      clear hx m0 m2 m3 m4 m6 m7 m10 m11 m12
      have m0 : w4.cell? ⟨g, 0, none⟩ = some (.int .i64 3) := by rw [Lib.cell_of_heap (HK.out _ hc4)]; rfl
      have m2 : w4.cell? ⟨g, 2, none⟩ = some (.int .i64 z1) := by rw [Lib.cell_of_heap (HK.out _ hc4)]; rfl
      have m3 : w4.cell? ⟨g, 3, none⟩ = some (.int .i64 z2) := by rw [Lib.cell_of_heap (HK.out _ hc4)]; rfl
      have m4 : w4.cell? ⟨g, 4, none⟩ = some (.int .i64 p) := by rw [Lib.cell_of_heap (HK.out _ hc4)]; rfl
      have m6 : w4.cell? ⟨g, 6, none⟩ = some (.int .i64 f1) := by rw [Lib.cell_of_heap (HK.out _ hc4)]; rfl
      have m7 : w4.cell? ⟨g, 7, none⟩ = some (.int .i64 f2) := by rw [Lib.cell_of_heap (HK.out _ hc4)]; rfl
      have m10 : w4.cell? ⟨g, 10, none⟩ = some (.int .i64 k) := by rw [Lib.cell_of_heap (HK.out _ hc4)]; rfl
      have m11 : w4.cell? ⟨g, 11, none⟩ = some (.string (bs b)) := by rw [Lib.cell_of_heap (HK.out _ hc4)]; rfl
      have m12 : w4.cell? ⟨g, 12, none⟩ = some (.slice a L.length cap) := by rw [Lib.cell_of_heap (HK.out _ hc4)]; rfl
      cases B3
      case false =>
        as_aux_lemma =>
        rw [Bool.false_and] at HV
        go_wp2
        go_ret
        exact ⟨by rw [HV.out]; rfl, by rw [HG.out]; exact HB.out _ hc4⟩
      rw [Bool.true_and] at HV
      by_cases h6 : L.length ≤ 1000
      case neg =>
        as_aux_lemma =>
        rw [decide_eq_false h6, Bool.false_and] at HV
        have t6 : decide ((L.length : Int) ≤ 1000) = false := decide_eq_false (by omega)
        go_wp2
        go_ret
        exact ⟨by rw [HV.out]; rfl, by rw [HG.out]; exact HB.out _ hc4⟩
      rw [decide_eq_true h6, Bool.true_and] at HV
      have t6 : decide ((L.length : Int) ≤ 1000) = true := decide_eq_true (by omega)
      by_cases h7 : k = 3
      case pos =>
        as_aux_lemma =>
        rw [decide_eq_true h7, Bool.true_or] at HV
        have t7 : (k == 3) = true := beq_iff_eq.2 h7
        subst h7
        go_wp2
        go_ret
        exact ⟨by rw [HV.out]; rfl, by rw [HG.out]; exact HB.out _ hc4⟩
      rw [decide_eq_false h7, Bool.false_or] at HV
      have t7 : (k == 3) = false := beq_eq_false_iff_ne.2 h7
      by_cases h8 : b = []
      case neg =>
        as_aux_lemma =>
        rw [decide_eq_false h8] at HV
        have t8 : ((bs b).toList == []) = false := by rw [bs_toList]; exact beq_eq_false_iff_ne.2 h8
        have t10 : ¬ bs b = ⟨#[]⟩ := fun h => h8 (bs_inj h)
        go_wp2
        go_ret
        exact ⟨by rw [HV.out]; rfl, by rw [HG.out]; exact HB.out _ hc4⟩
      case pos =>
        as_aux_lemma =>
        subst h8
        rw [decide_eq_true rfl] at HV
        have t8 : ((bs []).toList == []) = true := by rw [bs_toList]; rfl
        go_wp2
        go_ret
        exact ⟨by rw [HV.out]; rfl, by rw [HG.out]; exact HB.out _ hc4⟩
end Go.Proofs.Ytlbacddgjagcbaa
