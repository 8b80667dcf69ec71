/- The walks of the program's reader of messages: Vote, Info, Ack, Ask. Conditions: as each theorem says. -/
import Derived.Test.YtlbacddgjagcbaaValDb
namespace Go.Proofs.Ytlbacddgjagcbaa
open Go.RowKit

set_option maxRecDepth 100000 in
set_option maxHeartbeats 4000000 in
theorem vote_at (v q : Nat) (hvq : v ≠ q) (bad : Bool) (r r1 r2 r4 r5 r6 : Rd) (a0 a1 a2 a3 a4 a5 : Int) (hl : r.l.length ≤ 9223372036854775807) (e0 : numR r = (a0, r1)) (e1 : numsR 2 r1 = ([a1, a2], r2)) (e3 : numR r2 = (a3, r4)) (e4 : numR r4 = (a4, r5)) (e5 : numR r5 = (a5, r6)) (w : World) (h : Rds VRd PackRd v q bad r w) :
    Calls Try.prog 76 #[.pointer (some ⟨v, 0, none⟩)] w fun e w' => e = .returned (voteV a0 (a1, a2) a3 a4 a5) ∧ Rds VRd PackRd v q bad r6 w' ∧ Gr2 q v w w' := by
  have l1 := len_num e0 hl
  have l2 := len_nums e1 l1
  have l4 := len_num e3 l2
  have l5 := len_num e4 l4
  have l6 := len_num e5 l5
  have H0 := Lib.hid (fun X hX => pnum_at v q hvq bad r hl e0 X hX)
  have H1 := Lib.hid (fun X hX => zx_at v q hvq bad r1 l1 e1 X hX)
  have H3 := Lib.hid (fun X hX => pnum_at v q hvq bad r2 l2 e3 X hX)
  have H4 := Lib.hid (fun X hX => pnum_at v q hvq bad r4 l4 e4 X hX)
  have H5 := Lib.hid (fun X hX => pnum_at v q hvq bad r5 l5 e5 X hX)
  unfold voteV
  clear hl l1 l2 l4 l5 l6 e0 e1 e3 e4 e5
  obtain ⟨W, hW⟩ : ∃ X, X = w.alloc (.cells #[.int .i64 0, .int .i64 0, .int .i64 0, .int .i64 0, .int .i64 0, .int .i64 0] 65) := ⟨_, rfl⟩
  have hsW : Rds VRd PackRd v q bad r W := by rw [hW]; exact h.grew (alloc_below w _)
  have HW := Lib.hid hW
  clear hW
  have m0 : W.cell? ⟨v, 0, none⟩ = some (.pointer (some ⟨q, 0, none⟩)) := BlkAt.cell hsW.v rfl
  go_enter Try.func76, Try.ntmps76
  go_upto_region 1 with (fail)
  rw [← HW.out]
  go_wp2_with (fail)
  refine (H0.out _ hsW).mono ?_
  rintro e w1 ⟨rfl, hs1, hg1⟩
  go_wp2_with (refine wpList_store_blk (by rfl) 65 _ _ (by rfl) w1.heap.size 65 [.int .i64 0, .int .i64 0, .int .i64 0, .int .i64 0, .int .i64 0, .int .i64 0] [.int .i64 a0, .int .i64 0, .int .i64 0, .int .i64 0, .int .i64 0, .int .i64 0] (by rfl) (by rfl) (BlkAt.alloc_new w1 _ _) rfl (by kernel_rfl) (by intro u hu; simp only [List.mem_cons, List.not_mem_nil, or_false] at hu; rcases hu with rfl | rfl | rfl | rfl | rfl | rfl <;> rfl) ?_)
  intro w2 hk2 hg2
  rw [HW.out] at hg1
  obtain ⟨n4, hM⟩ := mid_start hvq h hs1 hg1 hk2 hg2
  clear hsW hs1 hg1 hk2 hg2 m0 h
  go_upto_region 2 with (fail)
  go_wp2_with (fail)
  refine (H1.out _ hM.s).mono ?_
  rintro e w3 ⟨rfl, hs1, hg1⟩
  have hX := hM.call n4 hs1 hg1
  clear hM hs1 hg1
  have c1 := BlkAt.cell hX.k (i := 1) rfl
  have f1 := BlkAt.frozen hX.k 1
  have c2 := BlkAt.cell hX.k (i := 2) rfl
  have f2 := BlkAt.frozen hX.k 2
  go_upto_region 3 with (fail)
  have hM := ((hX.set n4 1 (.int .i64 a1)).set n4 2 (.int .i64 a2))
  clear hX c1 f1 c2 f2
  simp only [List.set_cons_zero, List.set_cons_succ] at hM
  generalize (World.setCell (World.setCell w3 ⟨w1.heap.size, 1, none⟩ (.int .i64 a1)) ⟨w1.heap.size, 2, none⟩ (.int .i64 a2)) = w4 at *
  have m0 := hM.v0
  go_wp2_with (fail)
  refine (H3.out _ hM.s).mono ?_
  rintro e w5 ⟨rfl, hs1, hg1⟩
  have hX := hM.call n4 hs1 hg1
  clear hM hs1 hg1 m0
  have c3 := BlkAt.cell hX.k (i := 3) rfl
  have f3 := BlkAt.frozen hX.k 3
  go_upto_region 4 with (fail)
  have hM := (hX.set n4 3 (.int .i64 a3))
  clear hX c3 f3
  simp only [List.set_cons_zero, List.set_cons_succ] at hM
  generalize (World.setCell w5 ⟨w1.heap.size, 3, none⟩ (.int .i64 a3)) = w6 at *
  have m0 := hM.v0
  go_wp2_with (fail)
  refine (H4.out _ hM.s).mono ?_
  rintro e w7 ⟨rfl, hs1, hg1⟩
  have hX := hM.call n4 hs1 hg1
  clear hM hs1 hg1 m0
  have c4 := BlkAt.cell hX.k (i := 4) rfl
  have f4 := BlkAt.frozen hX.k 4
  go_upto_region 5 with (fail)
  have hM := (hX.set n4 4 (.int .i64 a4))
  clear hX c4 f4
  simp only [List.set_cons_zero, List.set_cons_succ] at hM
  generalize (World.setCell w7 ⟨w1.heap.size, 4, none⟩ (.int .i64 a4)) = w8 at *
  have m0 := hM.v0
  go_wp2_with (fail)
  refine (H5.out _ hM.s).mono ?_
  rintro e w9 ⟨rfl, hs1, hg1⟩
  have hX := hM.call n4 hs1 hg1
  clear hM hs1 hg1 m0
  have c5 := BlkAt.cell hX.k (i := 5) rfl
  have f5 := BlkAt.frozen hX.k 5
  go_upto_region 6 with (fail)
  have hM := (hX.set n4 5 (.int .i64 a5))
  clear hX c5 f5
  simp only [List.set_cons_zero, List.set_cons_succ] at hM
  generalize (World.setCell w9 ⟨w1.heap.size, 5, none⟩ (.int .i64 a5)) = w10 at *
  have y0 := BlkAt.cell hM.k (i := 0) rfl
  have y1 := BlkAt.cell hM.k (i := 1) rfl
  have y2 := BlkAt.cell hM.k (i := 2) rfl
  have y3 := BlkAt.cell hM.k (i := 3) rfl
  have y4 := BlkAt.cell hM.k (i := 4) rfl
  have y5 := BlkAt.cell hM.k (i := 5) rfl
  go_wp2_with (refine wpList_store_blk (by rfl) 65 _ _ (by rfl) w.heap.size 65 [.int .i64 0, .int .i64 0, .int .i64 0, .int .i64 0, .int .i64 0, .int .i64 0] [.int .i64 a0, .int .i64 a1, .int .i64 a2, .int .i64 a3, .int .i64 a4, .int .i64 a5] (by rfl) (by rfl) hM.j rfl (by kernel_rfl) (by intro u hu; simp only [List.mem_cons, List.not_mem_nil, or_false] at hu; rcases hu with rfl | rfl | rfl | rfl | rfl | rfl <;> rfl) ?_)
  intro w9 hS9 hg9
  have hld9 := run_load_blk (P := Try.prog) hS9 _ Try.underlying65 rfl (by kernel_rfl)
  go_wp2
  exact bodyPost_ret (v := .agg #[.int .i64 a0, .int .i64 a1, .int .i64 a2, .int .i64 a3, .int .i64 a4, .int .i64 a5]) (results_cell Try.results76 _ _ _ ⟨w.heap.size, 0, none⟩ _ (by rfl) hld9) rfl ⟨rfl, hM.s.kept hg9 (Ne.symm n4.jv) (Ne.symm n4.jq), hM.g.own hg9 n4.j⟩
set_option maxRecDepth 100000 in
set_option maxHeartbeats 4000000 in
theorem info_at (v q : Nat) (hvq : v ≠ q) (bad : Bool) (r r1 r2 r3 r4 : Rd) (a0 a1 a2 a3 a4 : Int) (hl : r.l.length ≤ 9223372036854775807) (e0 : numR r = (a0, r1)) (e1 : numR r1 = (a1, r2)) (e2 : numR r2 = (a2, r3)) (e3 : numsR 2 r3 = ([a3, a4], r4)) (w : World) (h : Rds VRd PackRd v q bad r w) :
    Calls Try.prog 77 #[.pointer (some ⟨v, 0, none⟩)] w fun e w' => e = .returned (infoV a0 a1 a2 (a3, a4)) ∧ Rds VRd PackRd v q bad r4 w' ∧ Gr2 q v w w' := by
  have l1 := len_num e0 hl
  have l2 := len_num e1 l1
  have l3 := len_num e2 l2
  have l4 := len_nums e3 l3
  have H0 := Lib.hid (fun X hX => pnum_at v q hvq bad r hl e0 X hX)
  have H1 := Lib.hid (fun X hX => pnum_at v q hvq bad r1 l1 e1 X hX)
  have H2 := Lib.hid (fun X hX => pnum_at v q hvq bad r2 l2 e2 X hX)
  have H3 := Lib.hid (fun X hX => zx_at v q hvq bad r3 l3 e3 X hX)
  unfold infoV
  clear hl l1 l2 l3 l4 e0 e1 e2 e3
  obtain ⟨W, hW⟩ : ∃ X, X = w.alloc (.cells #[.int .i64 0, .int .i64 0, .int .i64 0, .int .i64 0, .int .i64 0] 97) := ⟨_, rfl⟩
  have hsW : Rds VRd PackRd v q bad r W := by rw [hW]; exact h.grew (alloc_below w _)
  have HW := Lib.hid hW
  clear hW
  have m0 : W.cell? ⟨v, 0, none⟩ = some (.pointer (some ⟨q, 0, none⟩)) := BlkAt.cell hsW.v rfl
  go_enter Try.func77, Try.ntmps77
  go_upto_region 1 with (fail)
  rw [← HW.out]
  go_wp2_with (fail)
  refine (H0.out _ hsW).mono ?_
  rintro e w1 ⟨rfl, hs1, hg1⟩
  go_wp2_with (refine wpList_store_blk (by rfl) 97 _ _ (by rfl) w1.heap.size 97 [.int .i64 0, .int .i64 0, .int .i64 0, .int .i64 0, .int .i64 0] [.int .i64 a0, .int .i64 0, .int .i64 0, .int .i64 0, .int .i64 0] (by rfl) (by rfl) (BlkAt.alloc_new w1 _ _) rfl (by kernel_rfl) (by intro u hu; simp only [List.mem_cons, List.not_mem_nil, or_false] at hu; rcases hu with rfl | rfl | rfl | rfl | rfl <;> rfl) ?_)
  intro w2 hk2 hg2
  rw [HW.out] at hg1
  obtain ⟨n4, hM⟩ := mid_start hvq h hs1 hg1 hk2 hg2
  clear hsW hs1 hg1 hk2 hg2 m0 h
  go_upto_region 2 with (fail)
  have m0 := hM.v0
  go_wp2_with (fail)
  refine (H1.out _ hM.s).mono ?_
  rintro e w3 ⟨rfl, hs1, hg1⟩
  have hX := hM.call n4 hs1 hg1
  clear hM hs1 hg1 m0
  have c1 := BlkAt.cell hX.k (i := 1) rfl
  have f1 := BlkAt.frozen hX.k 1
  go_upto_region 3 with (fail)
  have hM := (hX.set n4 1 (.int .i64 a1))
  clear hX c1 f1
  simp only [List.set_cons_zero, List.set_cons_succ] at hM
  generalize (World.setCell w3 ⟨w1.heap.size, 1, none⟩ (.int .i64 a1)) = w4 at *
  have m0 := hM.v0
  go_wp2_with (fail)
  refine (H2.out _ hM.s).mono ?_
  rintro e w5 ⟨rfl, hs1, hg1⟩
  have hX := hM.call n4 hs1 hg1
  clear hM hs1 hg1 m0
  have c2 := BlkAt.cell hX.k (i := 2) rfl
  have f2 := BlkAt.frozen hX.k 2
  go_upto_region 4 with (fail)
  have hM := (hX.set n4 2 (.int .i64 a2))
  clear hX c2 f2
  simp only [List.set_cons_zero, List.set_cons_succ] at hM
  generalize (World.setCell w5 ⟨w1.heap.size, 2, none⟩ (.int .i64 a2)) = w6 at *
  go_wp2_with (fail)
  refine (H3.out _ hM.s).mono ?_
  rintro e w7 ⟨rfl, hs1, hg1⟩
  have hX := hM.call n4 hs1 hg1
  clear hM hs1 hg1
  have c3 := BlkAt.cell hX.k (i := 3) rfl
  have f3 := BlkAt.frozen hX.k 3
  have c4 := BlkAt.cell hX.k (i := 4) rfl
  have f4 := BlkAt.frozen hX.k 4
  go_upto_region 5 with (fail)
  have hM := ((hX.set n4 3 (.int .i64 a3)).set n4 4 (.int .i64 a4))
  clear hX c3 f3 c4 f4
  simp only [List.set_cons_zero, List.set_cons_succ] at hM
  generalize (World.setCell (World.setCell w7 ⟨w1.heap.size, 3, none⟩ (.int .i64 a3)) ⟨w1.heap.size, 4, none⟩ (.int .i64 a4)) = w8 at *
  have y0 := BlkAt.cell hM.k (i := 0) rfl
  have y1 := BlkAt.cell hM.k (i := 1) rfl
  have y2 := BlkAt.cell hM.k (i := 2) rfl
  have y3 := BlkAt.cell hM.k (i := 3) rfl
  have y4 := BlkAt.cell hM.k (i := 4) rfl
  go_wp2_with (refine wpList_store_blk (by rfl) 97 _ _ (by rfl) w.heap.size 97 [.int .i64 0, .int .i64 0, .int .i64 0, .int .i64 0, .int .i64 0] [.int .i64 a0, .int .i64 a1, .int .i64 a2, .int .i64 a3, .int .i64 a4] (by rfl) (by rfl) hM.j rfl (by kernel_rfl) (by intro u hu; simp only [List.mem_cons, List.not_mem_nil, or_false] at hu; rcases hu with rfl | rfl | rfl | rfl | rfl <;> rfl) ?_)
  intro w9 hS9 hg9
  have hld9 := run_load_blk (P := Try.prog) hS9 _ Try.underlying97 rfl (by kernel_rfl)
  go_wp2
  exact bodyPost_ret (v := .agg #[.int .i64 a0, .int .i64 a1, .int .i64 a2, .int .i64 a3, .int .i64 a4]) (results_cell Try.results77 _ _ _ ⟨w.heap.size, 0, none⟩ _ (by rfl) hld9) rfl ⟨rfl, hM.s.kept hg9 (Ne.symm n4.jv) (Ne.symm n4.jq), hM.g.own hg9 n4.j⟩
set_option maxRecDepth 100000 in
set_option maxHeartbeats 4000000 in
theorem ack_at (v q : Nat) (hvq : v ≠ q) (bad : Bool) (r r1 r2 : Rd) (a0 a1 a2 : Int) (hl : r.l.length ≤ 9223372036854775807) (e0 : numR r = (a0, r1)) (e1 : numsR 2 r1 = ([a1, a2], r2)) (w : World) (h : Rds VRd PackRd v q bad r w) :
    Calls Try.prog 80 #[.pointer (some ⟨v, 0, none⟩)] w fun e w' => e = .returned (ackV (decide (a0 = 1)) (a1, a2)) ∧ Rds VRd PackRd v q (bad || badFlag a0) r2 w' ∧ Gr2 q v w w' := by
  have l1 := len_num e0 hl
  have l2 := len_nums e1 l1
  have H0 := Lib.hid (fun X hX => flag_at v q hvq bad r hl e0 X hX)
  have H1 := Lib.hid (fun X hX => zx_at v q hvq (bad || badFlag a0) r1 l1 e1 X hX)
  unfold ackV
  clear hl l1 l2 e0 e1
  obtain ⟨W, hW⟩ : ∃ X, X = w.alloc (.cells #[.bool false, .int .i64 0, .int .i64 0] 94) := ⟨_, rfl⟩
  have hsW : Rds VRd PackRd v q bad r W := by rw [hW]; exact h.grew (alloc_below w _)
  have HW := Lib.hid hW
  clear hW
  have m0 : W.cell? ⟨v, 0, none⟩ = some (.pointer (some ⟨q, 0, none⟩)) := BlkAt.cell hsW.v rfl
  go_enter Try.func80, Try.ntmps80
  go_upto_region 1 with (fail)
  rw [← HW.out]
  go_wp2_with (fail)
  refine (H0.out _ hsW).mono ?_
  rintro e w1 ⟨rfl, hs1, hg1⟩
  go_wp2_with (refine wpList_store_blk (by rfl) 94 _ _ (by rfl) w1.heap.size 94 [.bool false, .int .i64 0, .int .i64 0] [.bool (decide (a0 = 1)), .int .i64 0, .int .i64 0] (by rfl) (by rfl) (BlkAt.alloc_new w1 _ _) rfl (by kernel_rfl) (by intro u hu; simp only [List.mem_cons, List.not_mem_nil, or_false] at hu; rcases hu with rfl | rfl | rfl <;> rfl) ?_)
  intro w2 hk2 hg2
  rw [HW.out] at hg1
  obtain ⟨n4, hM⟩ := mid_start hvq h hs1 hg1 hk2 hg2
  clear hsW hs1 hg1 hk2 hg2 m0 h
  go_upto_region 2 with (fail)
  go_wp2_with (fail)
  refine (H1.out _ hM.s).mono ?_
  rintro e w3 ⟨rfl, hs1, hg1⟩
  have hX := hM.call n4 hs1 hg1
  clear hM hs1 hg1
  have c1 := BlkAt.cell hX.k (i := 1) rfl
  have f1 := BlkAt.frozen hX.k 1
  have c2 := BlkAt.cell hX.k (i := 2) rfl
  have f2 := BlkAt.frozen hX.k 2
  go_upto_region 3 with (fail)
  have hM := ((hX.set n4 1 (.int .i64 a1)).set n4 2 (.int .i64 a2))
  clear hX c1 f1 c2 f2
  simp only [List.set_cons_zero, List.set_cons_succ] at hM
  generalize (World.setCell (World.setCell w3 ⟨w1.heap.size, 1, none⟩ (.int .i64 a1)) ⟨w1.heap.size, 2, none⟩ (.int .i64 a2)) = w4 at *
  have y0 := BlkAt.cell hM.k (i := 0) rfl
  have y1 := BlkAt.cell hM.k (i := 1) rfl
  have y2 := BlkAt.cell hM.k (i := 2) rfl
  go_wp2_with (refine wpList_store_blk (by rfl) 94 _ _ (by rfl) w.heap.size 94 [.bool false, .int .i64 0, .int .i64 0] [.bool (decide (a0 = 1)), .int .i64 a1, .int .i64 a2] (by rfl) (by rfl) hM.j rfl (by kernel_rfl) (by intro u hu; simp only [List.mem_cons, List.not_mem_nil, or_false] at hu; rcases hu with rfl | rfl | rfl <;> rfl) ?_)
  intro w9 hS9 hg9
  have hld9 := run_load_blk (P := Try.prog) hS9 _ Try.underlying94 rfl (by kernel_rfl)
  go_wp2
  exact bodyPost_ret (v := .agg #[.bool (decide (a0 = 1)), .int .i64 a1, .int .i64 a2]) (results_cell Try.results80 _ _ _ ⟨w.heap.size, 0, none⟩ _ (by rfl) hld9) rfl ⟨rfl, hM.s.kept hg9 (Ne.symm n4.jv) (Ne.symm n4.jq), hM.g.own hg9 n4.j⟩
set_option maxRecDepth 100000 in
set_option maxHeartbeats 4000000 in
theorem ask_at (v q : Nat) (hvq : v ≠ q) (bad : Bool) (r r1 r2 r3 r4 r5 : Rd) (a0 a1 a2 a3 : Int) (s4 : List UInt8) (hl : r.l.length ≤ 9223372036854775807) (e0 : numR r = (a0, r1)) (e1 : numR r1 = (a1, r2)) (e2 : numR r2 = (a2, r3)) (e3 : numR r3 = (a3, r4)) (e4 : textR r4 = (s4, r5)) (w : World) (h : Rds VRd PackRd v q bad r w) :
    Calls Try.prog 81 #[.pointer (some ⟨v, 0, none⟩)] w fun e w' => e = .returned (askV a0 a1 a2 (decide (a3 = 1)) s4) ∧ Rds VRd PackRd v q (bad || badFlag a3) r5 w' ∧ Gr2 q v w w' := by
  have l1 := len_num e0 hl
  have l2 := len_num e1 l1
  have l3 := len_num e2 l2
  have l4 := len_num e3 l3
  have l5 := len_text e4 l4
  have H0 := Lib.hid (fun X hX => pnum_at v q hvq bad r hl e0 X hX)
  have H1 := Lib.hid (fun X hX => pnum_at v q hvq bad r1 l1 e1 X hX)
  have H2 := Lib.hid (fun X hX => pnum_at v q hvq bad r2 l2 e2 X hX)
  have H3 := Lib.hid (fun X hX => flag_at v q hvq bad r3 l3 e3 X hX)
  have H4 := Lib.hid (fun X hX => ptext_at v q hvq (bad || badFlag a3) r4 l4 e4 X hX)
  unfold askV
  clear hl l1 l2 l3 l4 l5 e0 e1 e2 e3 e4
  obtain ⟨W, hW⟩ : ∃ X, X = w.alloc (.cells #[.int .i64 0, .int .i64 0, .int .i64 0, .bool false, .string ⟨#[]⟩] 103) := ⟨_, rfl⟩
  have hsW : Rds VRd PackRd v q bad r W := by rw [hW]; exact h.grew (alloc_below w _)
  have HW := Lib.hid hW
  clear hW
  have m0 : W.cell? ⟨v, 0, none⟩ = some (.pointer (some ⟨q, 0, none⟩)) := BlkAt.cell hsW.v rfl
  go_enter Try.func81, Try.ntmps81
  go_upto_region 1 with (fail)
  rw [← HW.out]
  go_wp2_with (fail)
  refine (H0.out _ hsW).mono ?_
  rintro e w1 ⟨rfl, hs1, hg1⟩
  go_wp2_with (refine wpList_store_blk (by rfl) 103 _ _ (by rfl) w1.heap.size 103 [.int .i64 0, .int .i64 0, .int .i64 0, .bool false, .string ⟨#[]⟩] [.int .i64 a0, .int .i64 0, .int .i64 0, .bool false, .string ⟨#[]⟩] (by rfl) (by rfl) (BlkAt.alloc_new w1 _ _) rfl (by kernel_rfl) (by intro u hu; simp only [List.mem_cons, List.not_mem_nil, or_false] at hu; rcases hu with rfl | rfl | rfl | rfl | rfl <;> rfl) ?_)
  intro w2 hk2 hg2
  rw [HW.out] at hg1
  obtain ⟨n4, hM⟩ := mid_start hvq h hs1 hg1 hk2 hg2
  clear hsW hs1 hg1 hk2 hg2 m0 h
  go_upto_region 2 with (fail)
  have m0 := hM.v0
  go_wp2_with (fail)
  refine (H1.out _ hM.s).mono ?_
  rintro e w3 ⟨rfl, hs1, hg1⟩
  have hX := hM.call n4 hs1 hg1
  clear hM hs1 hg1 m0
  have c1 := BlkAt.cell hX.k (i := 1) rfl
  have f1 := BlkAt.frozen hX.k 1
  go_upto_region 3 with (fail)
  have hM := (hX.set n4 1 (.int .i64 a1))
  clear hX c1 f1
  simp only [List.set_cons_zero, List.set_cons_succ] at hM
  generalize (World.setCell w3 ⟨w1.heap.size, 1, none⟩ (.int .i64 a1)) = w4 at *
  have m0 := hM.v0
  go_wp2_with (fail)
  refine (H2.out _ hM.s).mono ?_
  rintro e w5 ⟨rfl, hs1, hg1⟩
  have hX := hM.call n4 hs1 hg1
  clear hM hs1 hg1 m0
  have c2 := BlkAt.cell hX.k (i := 2) rfl
  have f2 := BlkAt.frozen hX.k 2
  go_upto_region 4 with (fail)
  have hM := (hX.set n4 2 (.int .i64 a2))
  clear hX c2 f2
  simp only [List.set_cons_zero, List.set_cons_succ] at hM
  generalize (World.setCell w5 ⟨w1.heap.size, 2, none⟩ (.int .i64 a2)) = w6 at *
  go_wp2_with (fail)
  refine (H3.out _ hM.s).mono ?_
  rintro e w7 ⟨rfl, hs1, hg1⟩
  have hX := hM.call n4 hs1 hg1
  clear hM hs1 hg1
  have c3 := BlkAt.cell hX.k (i := 3) rfl
  have f3 := BlkAt.frozen hX.k 3
  go_upto_region 5 with (fail)
  have hM := (hX.set n4 3 (.bool (decide (a3 = 1))))
  clear hX c3 f3
  simp only [List.set_cons_zero, List.set_cons_succ] at hM
  generalize (World.setCell w7 ⟨w1.heap.size, 3, none⟩ (.bool (decide (a3 = 1)))) = w8 at *
  have m0 := hM.v0
  go_wp2_with (fail)
  refine (H4.out _ hM.s).mono ?_
  rintro e w9 ⟨rfl, hs1, hg1⟩
  have hX := hM.call n4 hs1 hg1
  clear hM hs1 hg1 m0
  have c4 := BlkAt.cell hX.k (i := 4) rfl
  have f4 := BlkAt.frozen hX.k 4
  go_upto_region 6 with (fail)
  have hM := (hX.set n4 4 (.string (bs s4)))
  clear hX c4 f4
  simp only [List.set_cons_zero, List.set_cons_succ] at hM
  generalize (World.setCell w9 ⟨w1.heap.size, 4, none⟩ (.string (bs s4))) = w10 at *
  have y0 := BlkAt.cell hM.k (i := 0) rfl
  have y1 := BlkAt.cell hM.k (i := 1) rfl
  have y2 := BlkAt.cell hM.k (i := 2) rfl
  have y3 := BlkAt.cell hM.k (i := 3) rfl
  have y4 := BlkAt.cell hM.k (i := 4) rfl
  go_wp2_with (refine wpList_store_blk (by rfl) 103 _ _ (by rfl) w.heap.size 103 [.int .i64 0, .int .i64 0, .int .i64 0, .bool false, .string ⟨#[]⟩] [.int .i64 a0, .int .i64 a1, .int .i64 a2, .bool (decide (a3 = 1)), .string (bs s4)] (by rfl) (by rfl) hM.j rfl (by kernel_rfl) (by intro u hu; simp only [List.mem_cons, List.not_mem_nil, or_false] at hu; rcases hu with rfl | rfl | rfl | rfl | rfl <;> rfl) ?_)
  intro w9 hS9 hg9
  have hld9 := run_load_blk (P := Try.prog) hS9 _ Try.underlying103 rfl (by kernel_rfl)
  go_wp2
  exact bodyPost_ret (v := .agg #[.int .i64 a0, .int .i64 a1, .int .i64 a2, .bool (decide (a3 = 1)), .string (bs s4)]) (results_cell Try.results81 _ _ _ ⟨w.heap.size, 0, none⟩ _ (by rfl) hld9) rfl ⟨rfl, hM.s.kept hg9 (Ne.symm n4.jv) (Ne.symm n4.jq), hM.g.own hg9 n4.j⟩
end Go.Proofs.Ytlbacddgjagcbaa
