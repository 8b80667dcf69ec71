/- The walks of Entry.laid, and of Encode at a Vote, an Info, a Propose and an Ask. Conditions: as each theorem says. -/
import Derived.Test.YtlbacddgjagcbaaValY
namespace Go.Proofs.Ytlbacddgjagcbaa
open Go.RowKit

def entL (x : Ent) : List UInt8 := numsL [x.e, x.c] ++ textL x.b
theorem step0d {w0 c x : World} (h : Below w0.heap.size w0 c) (k : Below c.drew.heap.size c.drew x) : Below w0.heap.size w0 x := h.drew.trans (k.mono h.size)
theorem ints_drew (X : World) (l : List Int) (o : Obj) (ho : o = Obj.cells (l.map fun n => Value.int .i64 n).toArray 3 (0, 0)) : IntsAt X.heap.size l (X.alloc o).drew := BlkAt.drew (ints_new X _ rfl l o ho)
set_option maxRecDepth 100000 in
set_option maxHeartbeats 4000000 in
theorem entLaid_any (x : Ent) (h1 : i64B x.e) (h2 : i64B x.c) (hb : x.b.length ≤ 1000000) (w : World) : Calls Try.prog 56 #[entV x] w fun e w' => e = .returned (.string (bs (entL x))) ∧ Below w.heap.size w w' := by
  have HS : Hid (entL x = numsL [x.e, x.c] ++ textL x.b) := rfl
  generalize entL x = R at *
  have HN := Lib.hid (fun g X hX => nums_any [x.e, x.c] g 2 rfl (by omega) (i64_cons h1 (i64_cons h2 i64_nil)) X hX)
  have HX := Lib.hid (fun (X : World) g hg => ints_new X g hg [x.e, x.c] _ rfl)
  have HXd := Lib.hid (fun (X : World) => ints_drew X [x.e, x.c] _ rfl)
  have HT := Lib.hid (fun X => text_any x.b (by omega) X)
  simp only [List.map_cons, List.map_nil] at HX HXd
  have hs1 := numsL_len [x.e, x.c] (i64_cons h1 (i64_cons h2 i64_nil))
  have hs2 := textL_len x.b (by omega)
  simp only [List.length_cons, List.length_nil] at hs1
  have hz1 : (bs (numsL [x.e, x.c])).size ≤ 20 := by rw [bs_size]; exact hs1
  have hz2 : (bs (textL x.b)).size ≤ 1000010 := by rw [bs_size]; omega
  generalize numsL [x.e, x.c] = A at *
  generalize textL x.b = B at *
  have s0 : ¬ 9223372036854775807 < (bs A).size + (bs B).size := by omega
  unfold entV
  obtain ⟨W, hW⟩ : ∃ X, X = w.alloc (.cells #[.int .i64 x.e, .int .i64 x.c, .string (bs x.b)] 69) := ⟨_, rfl⟩
  have hB0 : Below w.heap.size w W := by rw [hW]; exact alloc_below w _
  have hk : W.heap[w.heap.size]? = some (.cells #[.int .i64 x.e, .int .i64 x.c, .string (bs x.b)] 69 (0, 0)) := by rw [hW]; exact heap_alloc_new w _
  have HB0 := Lib.hid hB0
  have c0 : W.cell? ⟨w.heap.size, 0, none⟩ = some (.int .i64 x.e) := by rw [Lib.cell_of_heap hk]; rfl
  have c1 : W.cell? ⟨w.heap.size, 1, none⟩ = some (.int .i64 x.c) := by rw [Lib.cell_of_heap hk]; rfl
  have c2 : W.cell? ⟨w.heap.size, 2, none⟩ = some (.string (bs x.b)) := by rw [Lib.cell_of_heap hk]; rfl
  have HW := Lib.hid hW
  clear hW hk hB0 hs1 hs2 h1 h2 hb
  go_enter Try.func56, Try.ntmps56
  go_upto_region 1 with (fail)
  rw [← HW.out]
  clear HW
  generalize hg : w.heap.size = g at *
  have HG := Lib.hid hg
  clear hg
  have hB := Below.refl W.heap.size W
  go_region_held3 (fun w' => w'.cell? ⟨g, 0, none⟩ = some (.int .i64 x.e) ∧ w'.cell? ⟨g, 1, none⟩ = some (.int .i64 x.c) ∧ w'.cell? ⟨g, 2, none⟩ = some (.string (bs x.b))) (first | exact ⟨Grew.cell hB c0, Grew.cell hB c1, Grew.cell hB c2⟩ | go_keep) (first | (go_at_call 54; (with_reducible refine (HN.out _ _ (by first | exact HX.out _ _ rfl | exact HXd.out _)).mono ?_); rintro e wX ⟨rfl, hbX⟩; first | have hB := step0 hB hbX | have hB := step1 hB hbX | have hB := step2 hB hbX) | (go_at_call 18; (with_reducible refine (HT.out _).mono ?_); rintro e wX ⟨rfl, hbX⟩; first | have hB := step0 hB hbX | have hB := step1 hB hbX | have hB := step2 hB hbX | have hB := step0d hB hbX))
  all_goals go_wp2
  all_goals go_ret
  all_goals exact ⟨by rw [HS.out, ← bs_append]; rfl, by rw [HG.out]; have := HB0.out; exact this.trans (hB.mono (by have := HB0.out.size; rw [HG.out] at this; exact this))⟩
set_option maxRecDepth 100000 in
set_option maxHeartbeats 4000000 in
theorem encode_vote (l : Int) (z : Int × Int) (p r s : Int) (hr : voteB l z p r s = true) (hi : ∀ x ∈ [1, l, z.1, z.2, p, r, s], i64B x) (w : World) : Calls Try.prog 37 #[.iface 65 (voteV l z p r s)] w fun e w' => EncSaid (numsL [1, l, z.1, z.2, p, r, s]) 0 w e w' := by
  have HR := Lib.hid (fun X => right_vote l z p r s X)
  unfold RightSaid at HR
  rw [hr] at HR
  obtain ⟨z1, z2⟩ := z
  simp only at hi ⊢
  have HN := Lib.hid (fun g X hX => nums_any [1, l, z1, z2, p, r, s] g 7 rfl (by omega) hi X hX)
  have HX := Lib.hid (fun (X : World) g hg => ints_new X g hg [1, l, z1, z2, p, r, s] _ rfl)
  simp only [List.map_cons, List.map_nil] at HX
  generalize numsL [1, l, z1, z2, p, r, s] = S at *
  unfold voteV at HR ⊢
  simp only at HR ⊢
  have y1 := yes_vote (.agg #[.int .i64 l, .int .i64 z1, .int .i64 z2, .int .i64 p, .int .i64 r, .int .i64 s])
  clear hr hi
  go_enter Try.func37, Try.ntmps37
  go_wp2_with (fail)
  refine (HR.out _).mono ?_
  rintro e w1 ⟨rfl, hb⟩
  have HB : Hid (∀ o1 o2, Below w.heap.size w ((w1.alloc o1).alloc o2)) := fun o1 o2 => (hb.alloc hb.size o1).alloc (by have := hb.size; simp; omega) o2
  go_wp2_with (fail)
  refine (HN.out _ _ (HX.out _ _ (by simp))).mono ?_
  rintro e w2 ⟨rfl, hb2⟩
  have hB2 := (HB.out _ _).trans (hb2.mono (HB.out _ _).size)
  go_wp2
  go_ret2
  exact ⟨rfl, hB2⟩
set_option maxRecDepth 100000 in
set_option maxHeartbeats 4000000 in
theorem encode_info (k p o : Int) (z : Int × Int) (hr : infoB k p o z = true) (hi : ∀ x ∈ [2, k, p, o, z.1, z.2], i64B x) (w : World) : Calls Try.prog 37 #[.iface 97 (infoV k p o z)] w fun e w' => EncSaid (numsL [2, k, p, o, z.1, z.2]) 0 w e w' := by
  have HR := Lib.hid (fun X => right_info k p o z X)
  unfold RightSaid at HR
  rw [hr] at HR
  obtain ⟨z1, z2⟩ := z
  simp only at hi ⊢
  have HN := Lib.hid (fun g X hX => nums_any [2, k, p, o, z1, z2] g 6 rfl (by omega) hi X hX)
  have HX := Lib.hid (fun (X : World) g hg => ints_new X g hg [2, k, p, o, z1, z2] _ rfl)
  simp only [List.map_cons, List.map_nil] at HX
  generalize numsL [2, k, p, o, z1, z2] = S at *
  unfold infoV at HR ⊢
  simp only at HR ⊢
  have n_vote := no_vote 97 (by decide) (.agg #[.int .i64 k, .int .i64 p, .int .i64 o, .int .i64 z1, .int .i64 z2])
  have y1 := yes_info (.agg #[.int .i64 k, .int .i64 p, .int .i64 o, .int .i64 z1, .int .i64 z2])
  clear hr hi
  go_enter Try.func37, Try.ntmps37
  go_wp2_with (fail)
  refine (HR.out _).mono ?_
  rintro e w1 ⟨rfl, hb⟩
  have HB : Hid (∀ o1 o2, Below w.heap.size w ((w1.alloc o1).alloc o2)) := fun o1 o2 => (hb.alloc hb.size o1).alloc (by have := hb.size; simp; omega) o2
  go_wp2_with (fail)
  refine (HN.out _ _ (HX.out _ _ (by simp))).mono ?_
  rintro e w2 ⟨rfl, hb2⟩
  have hB2 := (HB.out _ _).trans (hb2.mono (HB.out _ _).size)
  go_wp2
  go_ret2
  exact ⟨rfl, hB2⟩
set_option maxRecDepth 100000 in
set_option maxHeartbeats 16000000 in
theorem encode_prop (x : Ent) (hr : zxE x = true) (hi : ∀ y ∈ [4], i64B y) (h1 : i64B x.e) (h2 : i64B x.c) (hbl : x.b.length ≤ 1000000) (w : World) : Calls Try.prog 37 #[.iface 101 (entV x)] w fun e w' => EncSaid (numsL [4] ++ entL x) 0 w e w' := by
  have HR := Lib.hid (fun X => right_propose x X)
  unfold RightSaid at HR
  have hr' : zxB (x.e, x.c) = true := hr
  rw [hr'] at HR
  have HL := Lib.hid (fun X => entLaid_any x h1 h2 hbl X)
  have hs3 := numsL_len [x.e, x.c] (i64_cons h1 (i64_cons h2 i64_nil))
  have hs4 := textL_len x.b (by omega)
  have hz2 : (bs (entL x)).size ≤ 2000000 := by rw [bs_size]; unfold entL; rw [List.length_append]; simp only [List.length_cons, List.length_nil] at hs3; omega
  have HN := Lib.hid (fun g X hX => nums_any [4] g 1 rfl (by omega) hi X hX)
  have HX := Lib.hid (fun (X : World) g hg => ints_new X g hg [4] _ rfl)
  have HXd := Lib.hid (fun (X : World) => ints_drew X [4] _ rfl)
  simp only [List.map_cons, List.map_nil] at HX HXd
  have hs1 := numsL_len [4] hi
  simp only [List.length_cons, List.length_nil] at hs1
  have hz1 : (bs (numsL [4])).size ≤ 100 := by rw [bs_size]; omega
  generalize numsL [4] = A at *
  generalize entL x = B at *
  have s0 : ¬ 9223372036854775807 < (bs A).size + (bs B).size := by omega
  clear hs3 hs4 h1 h2 hbl
  unfold entV at HL HR ⊢
  have n_vote := no_vote 101 (by decide) (.agg #[.int .i64 x.e, .int .i64 x.c, .string (bs x.b)])
  have n_info := no_info 101 (by decide) (.agg #[.int .i64 x.e, .int .i64 x.c, .string (bs x.b)])
  have n_sync := no_sync 101 (by decide) (.agg #[.int .i64 x.e, .int .i64 x.c, .string (bs x.b)])
  have y1 := yes_propose (.agg #[.int .i64 x.e, .int .i64 x.c, .string (bs x.b)])
  clear hr hi hs1
  go_enter Try.func37, Try.ntmps37
  go_wp2_with (fail)
  refine (HR.out _).mono ?_
  rintro e w1 ⟨rfl, hb⟩
  obtain ⟨W, hW⟩ : ∃ X, X = w1.alloc (.cells #[.int .i64 x.e, .int .i64 x.c, .string (bs x.b)] 101) := ⟨_, rfl⟩
  have hB0 : Below w1.heap.size w1 W := by rw [hW]; exact alloc_below w1 _
  have hk : W.heap[w1.heap.size]? = some (.cells #[.int .i64 x.e, .int .i64 x.c, .string (bs x.b)] 101 (0, 0)) := by rw [hW]; exact heap_alloc_new w1 _
  have HBW := Lib.hid (hb.trans (hB0.mono hb.size))
  have c0 : W.cell? ⟨w1.heap.size, 0, none⟩ = some (.int .i64 x.e) := by rw [Lib.cell_of_heap hk]; rfl
  have c1 : W.cell? ⟨w1.heap.size, 1, none⟩ = some (.int .i64 x.c) := by rw [Lib.cell_of_heap hk]; rfl
  have c2 : W.cell? ⟨w1.heap.size, 2, none⟩ = some (.string (bs x.b)) := by rw [Lib.cell_of_heap hk]; rfl
  have HW := Lib.hid hW
  clear hW hk hB0 hb
  go_upto_region 18 with (fail)
  rw [← HW.out]
  clear HW
  generalize w1.heap.size = g at *
  have hB := Below.refl W.heap.size W
  go_region_held3 (fun w' => w'.cell? ⟨g, 0, none⟩ = some (.int .i64 x.e) ∧ w'.cell? ⟨g, 1, none⟩ = some (.int .i64 x.c) ∧ w'.cell? ⟨g, 2, none⟩ = some (.string (bs x.b))) (first | exact ⟨Grew.cell hB c0, Grew.cell hB c1, Grew.cell hB c2⟩ | go_keep) (first | (go_at_call 54; (with_reducible refine (HN.out _ _ (by first | exact HX.out _ _ rfl | exact HXd.out _)).mono ?_); rintro e wX ⟨rfl, hbX⟩; first | have hB := step0 hB hbX | have hB := step1 hB hbX | have hB := step2 hB hbX) | (go_at_call 56; (with_reducible refine (HL.out _).mono ?_); rintro e wX ⟨rfl, hbX⟩; first | have hB := step0 hB hbX | have hB := step1 hB hbX | have hB := step2 hB hbX | have hB := step0d hB hbX))
  all_goals go_wp2
  all_goals go_ret2
  all_goals exact ⟨by rw [← bs_append]; rfl, step0 HBW.out hB⟩
set_option maxRecDepth 100000 in
set_option maxHeartbeats 16000000 in
theorem encode_ask (n c q : Int) (f : Bool) (b : List UInt8) (hr : withinB [n, c, q] = true) (hi : ∀ y ∈ [6, n, c, q, flagI f], i64B y) (hbl : b.length ≤ 1000000) (w : World) : Calls Try.prog 37 #[.iface 103 (askV n c q f b)] w fun e w' => EncSaid (numsL [6, n, c, q, flagI f] ++ textL b) 0 w e w' := by
  have HR := Lib.hid (fun X => right_ask n c q f b X)
  unfold RightSaid at HR
  rw [hr] at HR
  have HF : Hid (∀ X, Calls Try.prog 57 #[.bool f] X fun e w' => e = .returned (.int .i64 (flagI f)) ∧ X = w') := fun X => flag_any f X
  generalize flagI f = F at *
  have HT := Lib.hid (fun X => text_any b (by omega) X)
  have hs4 := textL_len b (by omega)
  have hz2 : (bs (textL b)).size ≤ 2000000 := by rw [bs_size]; omega
  have HN := Lib.hid (fun g X hX => nums_any [6, n, c, q, F] g 5 rfl (by omega) hi X hX)
  have HX := Lib.hid (fun (X : World) g hg => ints_new X g hg [6, n, c, q, F] _ rfl)
  have HXd := Lib.hid (fun (X : World) => ints_drew X [6, n, c, q, F] _ rfl)
  simp only [List.map_cons, List.map_nil] at HX HXd
  have hs1 := numsL_len [6, n, c, q, F] hi
  simp only [List.length_cons, List.length_nil] at hs1
  have hz1 : (bs (numsL [6, n, c, q, F])).size ≤ 100 := by rw [bs_size]; omega
  generalize numsL [6, n, c, q, F] = A at *
  generalize textL b = B at *
  have s0 : ¬ 9223372036854775807 < (bs A).size + (bs B).size := by omega
  clear hs4 hbl
  unfold askV at HR ⊢
  have n_vote := no_vote 103 (by decide) (.agg #[.int .i64 n, .int .i64 c, .int .i64 q, .bool f, .string (bs b)])
  have n_info := no_info 103 (by decide) (.agg #[.int .i64 n, .int .i64 c, .int .i64 q, .bool f, .string (bs b)])
  have n_sync := no_sync 103 (by decide) (.agg #[.int .i64 n, .int .i64 c, .int .i64 q, .bool f, .string (bs b)])
  have n_propose := no_propose 103 (by decide) (.agg #[.int .i64 n, .int .i64 c, .int .i64 q, .bool f, .string (bs b)])
  have n_ack := no_ack 103 (by decide) (.agg #[.int .i64 n, .int .i64 c, .int .i64 q, .bool f, .string (bs b)])
  have y1 := run_assert_must (P := Try.prog) 103 20 (.agg #[.int .i64 n, .int .i64 c, .int .i64 q, .bool f, .string (bs b)]) _ Try.underlying103 rfl
  clear hr hi hs1
  go_enter Try.func37, Try.ntmps37
  go_wp2_with (fail)
  refine (HR.out _).mono ?_
  rintro e w1 ⟨rfl, hb⟩
  obtain ⟨W, hW⟩ : ∃ X, X = w1.alloc (.cells #[.int .i64 n, .int .i64 c, .int .i64 q, .bool f, .string (bs b)] 103) := ⟨_, rfl⟩
  have hB0 : Below w1.heap.size w1 W := by rw [hW]; exact alloc_below w1 _
  have hk : W.heap[w1.heap.size]? = some (.cells #[.int .i64 n, .int .i64 c, .int .i64 q, .bool f, .string (bs b)] 103 (0, 0)) := by rw [hW]; exact heap_alloc_new w1 _
  have HBW := Lib.hid (hb.trans (hB0.mono hb.size))
  have c0 : W.cell? ⟨w1.heap.size, 0, none⟩ = some (.int .i64 n) := by rw [Lib.cell_of_heap hk]; rfl
  have c1 : W.cell? ⟨w1.heap.size, 1, none⟩ = some (.int .i64 c) := by rw [Lib.cell_of_heap hk]; rfl
  have c2 : W.cell? ⟨w1.heap.size, 2, none⟩ = some (.int .i64 q) := by rw [Lib.cell_of_heap hk]; rfl
  have c3 : W.cell? ⟨w1.heap.size, 3, none⟩ = some (.bool f) := by rw [Lib.cell_of_heap hk]; rfl
  have c4 : W.cell? ⟨w1.heap.size, 4, none⟩ = some (.string (bs b)) := by rw [Lib.cell_of_heap hk]; rfl
  have HW := Lib.hid hW
  clear hW hk hB0 hb
  go_upto_region 23 with (fail)
  rw [← HW.out]
  clear HW
  generalize w1.heap.size = g at *
  have hB := Below.refl W.heap.size W
  go_region_held3 (fun w' => w'.cell? ⟨g, 0, none⟩ = some (.int .i64 n) ∧ w'.cell? ⟨g, 1, none⟩ = some (.int .i64 c) ∧ w'.cell? ⟨g, 2, none⟩ = some (.int .i64 q) ∧ w'.cell? ⟨g, 3, none⟩ = some (.bool f) ∧ w'.cell? ⟨g, 4, none⟩ = some (.string (bs b))) (first | exact ⟨Grew.cell hB c0, Grew.cell hB c1, Grew.cell hB c2, Grew.cell hB c3, Grew.cell hB c4⟩ | go_keep) (first | (go_at_call 57; (with_reducible refine (HF.out _).mono ?_); rintro e wX ⟨rfl, rfl⟩) | (go_at_call 54; (with_reducible refine (HN.out _ _ (by first | exact HX.out _ _ rfl | exact HXd.out _)).mono ?_); rintro e wX ⟨rfl, hbX⟩; first | have hB := step0 hB hbX | have hB := step1 hB hbX | have hB := step2 hB hbX) | (go_at_call 18; (with_reducible refine (HT.out _).mono ?_); rintro e wX ⟨rfl, hbX⟩; first | have hB := step0 hB hbX | have hB := step1 hB hbX | have hB := step2 hB hbX | have hB := step0d hB hbX))
  all_goals go_wp2
  all_goals go_ret2
  all_goals exact ⟨by rw [← bs_append]; rfl, step0 HBW.out hB⟩
end Go.Proofs.Ytlbacddgjagcbaa
