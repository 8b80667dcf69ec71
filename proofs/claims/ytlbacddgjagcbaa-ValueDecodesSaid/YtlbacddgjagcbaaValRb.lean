/- The walks of the reference's Encode. Conditions: as each theorem says. -/
import Derived.Test.YtlbacddgjagcbaaValRa
namespace Go.Proofs.Ytlbacddgjagcbaa
open Go.RowKit

def laidL (z : Int × Int) : List UInt8 := numL z.1 ++ numL z.2
theorem numL_bd (n : Int) (h : i64B n) : (bs (numL n)).size ≤ 10 := numSize n h.1 h.2
theorem laidL_bd (z : Int × Int) (h1 : i64B z.1) (h2 : i64B z.2) : (bs (laidL z)).size ≤ 20 := by
  have a := numL_bd _ h1
  have b := numL_bd _ h2
  rw [bs_size] at *
  unfold laidL
  rw [List.length_append]; omega
theorem textL_bd (b : List UInt8) (h : b.length ≤ 1000000) : (bs (textL b)).size ≤ 1000010 := by
  have := textL_len b (by omega)
  rw [bs_size]; omega
set_option maxRecDepth 100000 in
theorem refNumW_any (n : Int) (h : i64B n) (w : World) : Calls Try.prog 59 #[.int .i64 n] w fun e w' => e = .returned (.string (bs (numL n))) ∧ Below w.heap.size w w' := by
  have HN := Lib.hid (fun X => refnum_any n h.1 h.2 X)
  generalize numL n = R at *
  go_enter Try.func59, Try.ntmps59
  go_wp2_with (fail)
  refine (HN.out _).mono ?_
  rintro e w1 ⟨rfl, hb⟩
  go_wp2
  go_ret
  exact ⟨rfl, hb⟩
set_option maxRecDepth 100000 in
theorem refFlag_any (f : Bool) (w : World) : Calls Try.prog 61 #[.bool f] w fun e w' => e = .returned (.string (bs (numL (flagI f)))) ∧ Below w.heap.size w w' := by
  have HN := Lib.hid (fun X => refNumW_any (flagI f) (flagI_i64 f) X)
  generalize numL (flagI f) = R at *
  cases f
  all_goals
    simp only [flagI, if_true, Bool.false_eq_true, if_false] at HN
    go_enter Try.func61, Try.ntmps61
    go_wp2_with (fail)
    refine (HN.out _).mono ?_
    rintro e w1 ⟨rfl, hb⟩
    go_wp2
    go_ret
    exact ⟨rfl, hb⟩
set_option maxRecDepth 100000 in
set_option maxHeartbeats 1600000 in
theorem refLaid_any (z : Int × Int) (h1 : i64B z.1) (h2 : i64B z.2) (w : World) : Calls Try.prog 60 #[zxidV z] w fun e w' => e = .returned (.string (bs (laidL z))) ∧ Below w.heap.size w w' := by
  obtain ⟨a, b⟩ := z
  have HA := Lib.hid (fun X => refNumW_any a h1 X)
  have HC := Lib.hid (fun X => refNumW_any b h2 X)
  have q1 := numL_bd a h1
  have q2 := numL_bd b h2
  have HS : Hid (laidL (a, b) = numL a ++ numL b) := rfl
  rw [HS.out]
  clear HS h1 h2
  generalize numL a = A at *
  generalize numL b = C at *
  have s0 : ¬ 9223372036854775807 < (bs A).size + (bs C).size := by omega
  unfold zxidV
  simp only
  obtain ⟨W, hW⟩ : ∃ X, X = w.alloc (.cells #[.int .i64 a, .int .i64 b] 48) := ⟨_, rfl⟩
  have hB : Below w.heap.size w W := by rw [hW]; exact alloc_below w _
  have m0 : W.cell? ⟨w.heap.size, 0, none⟩ = some (.int .i64 a) := by rw [hW]; simp
  have m1 : W.cell? ⟨w.heap.size, 1, none⟩ = some (.int .i64 b) := by rw [hW]; simp
  have HW := Lib.hid hW
  have HB := Lib.hid hB
  clear hW hB
  go_enter Try.func60, Try.ntmps60
  go_upto_region 1 with (fail)
  rw [← HW.out]
  clear HW
  have hex := Grew.all W
  refine wp_region_grew (by kernel_rfl) (by kernel_rfl) ?_
  repeat (first | go_big_quiet_skip | (go_big_quiet_want; first | (refine quiet_load_cell _ _ rfl ⟨w.heap.size, 0, none⟩ rfl _ _ Try.underlying3 rfl (fun W hW => Grew.cell hW m0) ?_; simp only [Act.put, List.setIfInBounds_toArray, List.set_cons_succ, List.set_cons_zero]; go_big_quiet_on) | (refine quiet_load_cell _ _ rfl ⟨w.heap.size, 1, none⟩ rfl _ _ Try.underlying3 rfl (fun W hW => Grew.cell hW m1) ?_; simp only [Act.put, List.setIfInBounds_toArray, List.set_cons_succ, List.set_cons_zero]; go_big_quiet_on) | (go_big_quiet_op; first | go_big_quiet_on | (apply Exists.intro; refine ⟨fun W hW => ?_, ?_⟩; (first | exact rfl | (go_at_call 59; with_reducible exact Calls.grew hW (HA.out _)) | (go_at_call 59; with_reducible exact Calls.grew hW (HC.out _))); go_big_quiet_on))))
  refine wpQuiet_nil ?_
  intro w3 hw3
  have hb3 : Below W.heap.size W w3 := hw3
  clear hex
  go_wp2
  go_ret
  exact ⟨by rw [← bs_append]; rfl, HB.out.trans (hb3.mono HB.out.size)⟩
set_option maxRecDepth 100000 in
set_option maxHeartbeats 8000000 in
theorem refEnc_vote (l : Int) (z : Int × Int) (p r s : Int) (hr : voteB l z p r s = true) (hl : i64B l) (hz1 : i64B z.1) (hz2 : i64B z.2) (hp : i64B p) (hrr : i64B r) (hs : i64B s) (w : World) : Calls Try.prog 38 #[msgV (plM (.vote l z p r s)) none 0] w fun e w' => EncSaid (numsL [1, l, z.1, z.2, p, r, s]) 0 w e w' := by
  have HR := Lib.hid (fun X => refRight_vote l z p r s X)
  rw [hr] at HR
  have HT := Lib.hid (fun X => refNumW_any 1 ⟨by decide, by decide⟩ X)
  have bT := numL_bd 1 ⟨by decide, by decide⟩
  have H0 := Lib.hid (fun X => refNumW_any l hl X)
  have b0 := numL_bd l hl
  have H1 := Lib.hid (fun X => refLaid_any z hz1 hz2 X)
  have b1 := laidL_bd z hz1 hz2
  have H2 := Lib.hid (fun X => refNumW_any p hp X)
  have b2 := numL_bd p hp
  have H3 := Lib.hid (fun X => refNumW_any r hrr X)
  have b3 := numL_bd r hrr
  have H4 := Lib.hid (fun X => refNumW_any s hs X)
  have b4 := numL_bd s hs
  have HO : Hid (numsL [1, l, z.1, z.2, p, r, s] = (((((numL 1 ++ numL l) ++ laidL z) ++ numL p) ++ numL r) ++ numL s)) := by show _ = _; simp [numsL, laidL, List.append_assoc]
  rw [HO.out]
  clear HO
  generalize numL 1 = T at *
  generalize numL l = N0 at *
  generalize laidL z = N1 at *
  generalize numL p = N2 at *
  generalize numL r = N3 at *
  generalize numL s = N4 at *
  have cT := bT
  rw [bs_size] at cT
  have c0 := b0
  rw [bs_size] at c0
  have c1 := b1
  rw [bs_size] at c1
  have c2 := b2
  rw [bs_size] at c2
  have c3 := b3
  rw [bs_size] at c3
  have c4 := b4
  rw [bs_size] at c4
  have s0 : ¬ 9223372036854775807 < (bs T).size + (bs N0).size := by simp only [bs_size]; omega
  have ss0 : ¬ 9223372036854775807 < (bs T).size + (bs N0).size := by simp only [bs_size]; omega
  have s1 : ¬ 9223372036854775807 < (bs T ++ bs N0).size + (bs N1).size := by simp only [bs_append, bs_size, List.length_append]; omega
  have ss1 : ¬ 9223372036854775807 < (bs T).size + (bs N0).size + (bs N1).size := by simp only [bs_size]; omega
  have s2 : ¬ 9223372036854775807 < (bs T ++ bs N0 ++ bs N1).size + (bs N2).size := by simp only [bs_append, bs_size, List.length_append]; omega
  have ss2 : ¬ 9223372036854775807 < (bs T).size + (bs N0).size + (bs N1).size + (bs N2).size := by simp only [bs_size]; omega
  have s3 : ¬ 9223372036854775807 < (bs T ++ bs N0 ++ bs N1 ++ bs N2).size + (bs N3).size := by simp only [bs_append, bs_size, List.length_append]; omega
  have ss3 : ¬ 9223372036854775807 < (bs T).size + (bs N0).size + (bs N1).size + (bs N2).size + (bs N3).size := by simp only [bs_size]; omega
  have s4 : ¬ 9223372036854775807 < (bs T ++ bs N0 ++ bs N1 ++ bs N2 ++ bs N3).size + (bs N4).size := by simp only [bs_append, bs_size, List.length_append]; omega
  have ss4 : ¬ 9223372036854775807 < (bs T).size + (bs N0).size + (bs N1).size + (bs N2).size + (bs N3).size + (bs N4).size := by simp only [bs_size]; omega
  clear cT bT c0 b0 c1 b1 c2 b2 c3 b3 c4 b4
  obtain ⟨z1, z2⟩ := z
  try unfold zxidV at *
  unfold msgV msgCells plM at HR ⊢
  simp only [List.length_nil] at *
  obtain ⟨W, hW⟩ : ∃ X, X = w.alloc (.cells #[.int .i64 1, .int .i64 l, .int .i64 z1, .int .i64 z2, .int .i64 p, .int .i64 0, .int .i64 0, .int .i64 0, .int .i64 r, .int .i64 s, .int .i64 0, .string (bs []), .slice none 0 0, .bool false, .int .i64 0, .int .i64 0, .int .i64 0] 51) := ⟨_, rfl⟩
  have hB : Below w.heap.size w W := by rw [hW]; exact alloc_below w _
  have hk : W.heap[w.heap.size]? = some (.cells #[.int .i64 1, .int .i64 l, .int .i64 z1, .int .i64 z2, .int .i64 p, .int .i64 0, .int .i64 0, .int .i64 0, .int .i64 r, .int .i64 s, .int .i64 0, .string (bs []), .slice none 0 0, .bool false, .int .i64 0, .int .i64 0, .int .i64 0] 51 (0, 0)) := by rw [hW]; exact heap_alloc_new w _
  have HK := Lib.hid (fun X (hX : Below W.heap.size W X) => Grew.at_ hX hk)
  have HWe := Lib.hid hW
  have HB : Hid (∀ X, Below W.heap.size W X → Below w.heap.size w X) := fun X hX => hB.trans (hX.mono hB.size)
  clear hW hk hB
  go_enter Try.func38, Try.ntmps38
  go_upto_region 1 with (fail)
  rw [← HWe.out]
  clear HWe
  generalize hg : w.heap.size = g at *
  have HG := Lib.hid hg
  clear hg
  have hb0 := Below.refl W.heap.size W
  have m0 : W.cell? ⟨g, 0, none⟩ = some (.int .i64 1) := by rw [Lib.cell_of_heap (HK.out _ hb0)]; rfl
  have m1 : W.cell? ⟨g, 1, none⟩ = some (.int .i64 l) := by rw [Lib.cell_of_heap (HK.out _ hb0)]; rfl
  have m2 : W.cell? ⟨g, 2, none⟩ = some (.int .i64 z1) := by rw [Lib.cell_of_heap (HK.out _ hb0)]; rfl
  have m3 : W.cell? ⟨g, 3, none⟩ = some (.int .i64 z2) := by rw [Lib.cell_of_heap (HK.out _ hb0)]; rfl
  have m4 : W.cell? ⟨g, 4, none⟩ = some (.int .i64 p) := by rw [Lib.cell_of_heap (HK.out _ hb0)]; rfl
  have m5 : W.cell? ⟨g, 5, none⟩ = some (.int .i64 0) := by rw [Lib.cell_of_heap (HK.out _ hb0)]; rfl
  have m6 : W.cell? ⟨g, 6, none⟩ = some (.int .i64 0) := by rw [Lib.cell_of_heap (HK.out _ hb0)]; rfl
  have m7 : W.cell? ⟨g, 7, none⟩ = some (.int .i64 0) := by rw [Lib.cell_of_heap (HK.out _ hb0)]; rfl
  have m8 : W.cell? ⟨g, 8, none⟩ = some (.int .i64 r) := by rw [Lib.cell_of_heap (HK.out _ hb0)]; rfl
  have m9 : W.cell? ⟨g, 9, none⟩ = some (.int .i64 s) := by rw [Lib.cell_of_heap (HK.out _ hb0)]; rfl
  have m10 : W.cell? ⟨g, 10, none⟩ = some (.int .i64 0) := by rw [Lib.cell_of_heap (HK.out _ hb0)]; rfl
  have m11 : W.cell? ⟨g, 11, none⟩ = some (.string (bs [])) := by rw [Lib.cell_of_heap (HK.out _ hb0)]; rfl
  have m12 : W.cell? ⟨g, 12, none⟩ = some (.slice none 0 0) := by rw [Lib.cell_of_heap (HK.out _ hb0)]; rfl
  have m13 : W.cell? ⟨g, 13, none⟩ = some (.bool false) := by rw [Lib.cell_of_heap (HK.out _ hb0)]; rfl
  have m14 : W.cell? ⟨g, 14, none⟩ = some (.int .i64 0) := by rw [Lib.cell_of_heap (HK.out _ hb0)]; rfl
  have m15 : W.cell? ⟨g, 15, none⟩ = some (.int .i64 0) := by rw [Lib.cell_of_heap (HK.out _ hb0)]; rfl
  have m16 : W.cell? ⟨g, 16, none⟩ = some (.int .i64 0) := by rw [Lib.cell_of_heap (HK.out _ hb0)]; rfl
  go_wp2_with (fail)
  refine (HR.out _).mono ?_
  rintro e w1 ⟨rfl, hb1⟩
  clear m0 m1 m2 m3 m4 m5 m6 m7 m8 m9 m10 m11 m12 m13 m14 m15 m16
  have m0 : w1.cell? ⟨g, 0, none⟩ = some (.int .i64 1) := by rw [Lib.cell_of_heap (HK.out _ hb1)]; rfl
  go_wp2_with (fail)
  refine (HT.out _).mono ?_
  rintro e w2 ⟨rfl, hx2⟩
  have hb2 := hb1.trans (hx2.mono hb1.size)
  clear m0 hx2
  have m0 : w2.cell? ⟨g, 0, none⟩ = some (.int .i64 1) := by rw [Lib.cell_of_heap (HK.out _ hb2)]; rfl
  have m1 : w2.cell? ⟨g, 1, none⟩ = some (.int .i64 l) := by rw [Lib.cell_of_heap (HK.out _ hb2)]; rfl
  have m2 : w2.cell? ⟨g, 2, none⟩ = some (.int .i64 z1) := by rw [Lib.cell_of_heap (HK.out _ hb2)]; rfl
  have m3 : w2.cell? ⟨g, 3, none⟩ = some (.int .i64 z2) := by rw [Lib.cell_of_heap (HK.out _ hb2)]; rfl
  have m4 : w2.cell? ⟨g, 4, none⟩ = some (.int .i64 p) := by rw [Lib.cell_of_heap (HK.out _ hb2)]; rfl
  have m8 : w2.cell? ⟨g, 8, none⟩ = some (.int .i64 r) := by rw [Lib.cell_of_heap (HK.out _ hb2)]; rfl
  have m9 : w2.cell? ⟨g, 9, none⟩ = some (.int .i64 s) := by rw [Lib.cell_of_heap (HK.out _ hb2)]; rfl
  go_upto_region 8 with (fail)
  have hex := Grew.all w2
  refine wp_region_grew (by kernel_rfl) (by kernel_rfl) ?_
  repeat (first | go_big_quiet_skip | (go_big_quiet_want; first | (refine quiet_load_mid 48 _ rfl _ _ rfl [.int .i64 z1, .int .i64 z2] _ (fun W hW => range2 (Grew.cell hW m2) (Grew.cell hW m3)) Try.underlying48 rfl (by kernel_rfl) ?_; simp only [Act.put, List.setIfInBounds_toArray, List.set_cons_succ, List.set_cons_zero]; go_big_quiet_on) | (refine quiet_load_cell _ _ rfl ⟨g, 1, none⟩ rfl _ _ Try.underlying3 rfl (fun W hW => Grew.cell hW m1) ?_; simp only [Act.put, List.setIfInBounds_toArray, List.set_cons_succ, List.set_cons_zero]; go_big_quiet_on) | (refine quiet_load_cell _ _ rfl ⟨g, 4, none⟩ rfl _ _ Try.underlying3 rfl (fun W hW => Grew.cell hW m4) ?_; simp only [Act.put, List.setIfInBounds_toArray, List.set_cons_succ, List.set_cons_zero]; go_big_quiet_on) | (refine quiet_load_cell _ _ rfl ⟨g, 8, none⟩ rfl _ _ Try.underlying3 rfl (fun W hW => Grew.cell hW m8) ?_; simp only [Act.put, List.setIfInBounds_toArray, List.set_cons_succ, List.set_cons_zero]; go_big_quiet_on) | (refine quiet_load_cell _ _ rfl ⟨g, 9, none⟩ rfl _ _ Try.underlying3 rfl (fun W hW => Grew.cell hW m9) ?_; simp only [Act.put, List.setIfInBounds_toArray, List.set_cons_succ, List.set_cons_zero]; go_big_quiet_on) | (go_big_quiet_op; first | go_big_quiet_on | (apply Exists.intro; refine ⟨fun W hW => ?_, ?_⟩; (first | exact rfl | (go_at_call 59; with_reducible exact Calls.grew hW (H0.out _)) | (go_at_call 60; with_reducible exact Calls.grew hW (H1.out _)) | (go_at_call 59; with_reducible exact Calls.grew hW (H2.out _)) | (go_at_call 59; with_reducible exact Calls.grew hW (H3.out _)) | (go_at_call 59; with_reducible exact Calls.grew hW (H4.out _))); go_big_quiet_on))))
  refine wpQuiet_nil ?_
  intro w3 hw3
  have hb3 : Below W.heap.size W w3 := hb2.trans (Below.mono (show Below w2.heap.size w2 w3 from hw3) hb2.size)
  clear hex
  go_wp2
  go_ret2
  exact ⟨by simp only [← bs_append]; rfl, by rw [HG.out]; exact HB.out _ hb3⟩
set_option maxRecDepth 100000 in
set_option maxHeartbeats 8000000 in
theorem refEnc_info (k p o : Int) (z : Int × Int) (hr : infoB k p o z = true) (hz1 : i64B z.1) (hz2 : i64B z.2) (hk : i64B k) (hp : i64B p) (ho : i64B o) (w : World) : Calls Try.prog 38 #[msgV (plM (.info k p o z)) none 0] w fun e w' => EncSaid (numsL [2, k, p, o, z.1, z.2]) 0 w e w' := by
  have HR := Lib.hid (fun X => refRight_info k p o z X)
  rw [hr] at HR
  have HT := Lib.hid (fun X => refNumW_any 2 ⟨by decide, by decide⟩ X)
  have bT := numL_bd 2 ⟨by decide, by decide⟩
  have H0 := Lib.hid (fun X => refNumW_any k hk X)
  have b0 := numL_bd k hk
  have H1 := Lib.hid (fun X => refNumW_any p hp X)
  have b1 := numL_bd p hp
  have H2 := Lib.hid (fun X => refNumW_any o ho X)
  have b2 := numL_bd o ho
  have H3 := Lib.hid (fun X => refLaid_any z hz1 hz2 X)
  have b3 := laidL_bd z hz1 hz2
  have HO : Hid (numsL [2, k, p, o, z.1, z.2] = ((((numL 2 ++ numL k) ++ numL p) ++ numL o) ++ laidL z)) := by show _ = _; simp [numsL, laidL, List.append_assoc]
  rw [HO.out]
  clear HO
  generalize numL 2 = T at *
  generalize numL k = N0 at *
  generalize numL p = N1 at *
  generalize numL o = N2 at *
  generalize laidL z = N3 at *
  have cT := bT
  rw [bs_size] at cT
  have c0 := b0
  rw [bs_size] at c0
  have c1 := b1
  rw [bs_size] at c1
  have c2 := b2
  rw [bs_size] at c2
  have c3 := b3
  rw [bs_size] at c3
  have s0 : ¬ 9223372036854775807 < (bs T).size + (bs N0).size := by simp only [bs_size]; omega
  have ss0 : ¬ 9223372036854775807 < (bs T).size + (bs N0).size := by simp only [bs_size]; omega
  have s1 : ¬ 9223372036854775807 < (bs T ++ bs N0).size + (bs N1).size := by simp only [bs_append, bs_size, List.length_append]; omega
  have ss1 : ¬ 9223372036854775807 < (bs T).size + (bs N0).size + (bs N1).size := by simp only [bs_size]; omega
  have s2 : ¬ 9223372036854775807 < (bs T ++ bs N0 ++ bs N1).size + (bs N2).size := by simp only [bs_append, bs_size, List.length_append]; omega
  have ss2 : ¬ 9223372036854775807 < (bs T).size + (bs N0).size + (bs N1).size + (bs N2).size := by simp only [bs_size]; omega
  have s3 : ¬ 9223372036854775807 < (bs T ++ bs N0 ++ bs N1 ++ bs N2).size + (bs N3).size := by simp only [bs_append, bs_size, List.length_append]; omega
  have ss3 : ¬ 9223372036854775807 < (bs T).size + (bs N0).size + (bs N1).size + (bs N2).size + (bs N3).size := by simp only [bs_size]; omega
  clear cT bT c0 b0 c1 b1 c2 b2 c3 b3
  obtain ⟨z1, z2⟩ := z
  try unfold zxidV at *
  unfold msgV msgCells plM at HR ⊢
  simp only [List.length_nil] at *
  obtain ⟨W, hW⟩ : ∃ X, X = w.alloc (.cells #[.int .i64 2, .int .i64 0, .int .i64 z1, .int .i64 z2, .int .i64 p, .int .i64 o, .int .i64 0, .int .i64 0, .int .i64 0, .int .i64 0, .int .i64 k, .string (bs []), .slice none 0 0, .bool false, .int .i64 0, .int .i64 0, .int .i64 0] 51) := ⟨_, rfl⟩
  have hB : Below w.heap.size w W := by rw [hW]; exact alloc_below w _
  have hk : W.heap[w.heap.size]? = some (.cells #[.int .i64 2, .int .i64 0, .int .i64 z1, .int .i64 z2, .int .i64 p, .int .i64 o, .int .i64 0, .int .i64 0, .int .i64 0, .int .i64 0, .int .i64 k, .string (bs []), .slice none 0 0, .bool false, .int .i64 0, .int .i64 0, .int .i64 0] 51 (0, 0)) := by rw [hW]; exact heap_alloc_new w _
  have HK := Lib.hid (fun X (hX : Below W.heap.size W X) => Grew.at_ hX hk)
  have HWe := Lib.hid hW
  have HB : Hid (∀ X, Below W.heap.size W X → Below w.heap.size w X) := fun X hX => hB.trans (hX.mono hB.size)
  clear hW hk hB
  go_enter Try.func38, Try.ntmps38
  go_upto_region 1 with (fail)
  rw [← HWe.out]
  clear HWe
  generalize hg : w.heap.size = g at *
  have HG := Lib.hid hg
  clear hg
  have hb0 := Below.refl W.heap.size W
  have m0 : W.cell? ⟨g, 0, none⟩ = some (.int .i64 2) := by rw [Lib.cell_of_heap (HK.out _ hb0)]; rfl
  have m1 : W.cell? ⟨g, 1, none⟩ = some (.int .i64 0) := by rw [Lib.cell_of_heap (HK.out _ hb0)]; rfl
  have m2 : W.cell? ⟨g, 2, none⟩ = some (.int .i64 z1) := by rw [Lib.cell_of_heap (HK.out _ hb0)]; rfl
  have m3 : W.cell? ⟨g, 3, none⟩ = some (.int .i64 z2) := by rw [Lib.cell_of_heap (HK.out _ hb0)]; rfl
  have m4 : W.cell? ⟨g, 4, none⟩ = some (.int .i64 p) := by rw [Lib.cell_of_heap (HK.out _ hb0)]; rfl
  have m5 : W.cell? ⟨g, 5, none⟩ = some (.int .i64 o) := by rw [Lib.cell_of_heap (HK.out _ hb0)]; rfl
  have m6 : W.cell? ⟨g, 6, none⟩ = some (.int .i64 0) := by rw [Lib.cell_of_heap (HK.out _ hb0)]; rfl
  have m7 : W.cell? ⟨g, 7, none⟩ = some (.int .i64 0) := by rw [Lib.cell_of_heap (HK.out _ hb0)]; rfl
  have m8 : W.cell? ⟨g, 8, none⟩ = some (.int .i64 0) := by rw [Lib.cell_of_heap (HK.out _ hb0)]; rfl
  have m9 : W.cell? ⟨g, 9, none⟩ = some (.int .i64 0) := by rw [Lib.cell_of_heap (HK.out _ hb0)]; rfl
  have m10 : W.cell? ⟨g, 10, none⟩ = some (.int .i64 k) := by rw [Lib.cell_of_heap (HK.out _ hb0)]; rfl
  have m11 : W.cell? ⟨g, 11, none⟩ = some (.string (bs [])) := by rw [Lib.cell_of_heap (HK.out _ hb0)]; rfl
  have m12 : W.cell? ⟨g, 12, none⟩ = some (.slice none 0 0) := by rw [Lib.cell_of_heap (HK.out _ hb0)]; rfl
  have m13 : W.cell? ⟨g, 13, none⟩ = some (.bool false) := by rw [Lib.cell_of_heap (HK.out _ hb0)]; rfl
  have m14 : W.cell? ⟨g, 14, none⟩ = some (.int .i64 0) := by rw [Lib.cell_of_heap (HK.out _ hb0)]; rfl
  have m15 : W.cell? ⟨g, 15, none⟩ = some (.int .i64 0) := by rw [Lib.cell_of_heap (HK.out _ hb0)]; rfl
  have m16 : W.cell? ⟨g, 16, none⟩ = some (.int .i64 0) := by rw [Lib.cell_of_heap (HK.out _ hb0)]; rfl
  go_wp2_with (fail)
  refine (HR.out _).mono ?_
  rintro e w1 ⟨rfl, hb1⟩
  clear m0 m1 m2 m3 m4 m5 m6 m7 m8 m9 m10 m11 m12 m13 m14 m15 m16
  have m0 : w1.cell? ⟨g, 0, none⟩ = some (.int .i64 2) := by rw [Lib.cell_of_heap (HK.out _ hb1)]; rfl
  go_wp2_with (fail)
  refine (HT.out _).mono ?_
  rintro e w2 ⟨rfl, hx2⟩
  have hb2 := hb1.trans (hx2.mono hb1.size)
  clear m0 hx2
  have m0 : w2.cell? ⟨g, 0, none⟩ = some (.int .i64 2) := by rw [Lib.cell_of_heap (HK.out _ hb2)]; rfl
  have m2 : w2.cell? ⟨g, 2, none⟩ = some (.int .i64 z1) := by rw [Lib.cell_of_heap (HK.out _ hb2)]; rfl
  have m3 : w2.cell? ⟨g, 3, none⟩ = some (.int .i64 z2) := by rw [Lib.cell_of_heap (HK.out _ hb2)]; rfl
  have m4 : w2.cell? ⟨g, 4, none⟩ = some (.int .i64 p) := by rw [Lib.cell_of_heap (HK.out _ hb2)]; rfl
  have m5 : w2.cell? ⟨g, 5, none⟩ = some (.int .i64 o) := by rw [Lib.cell_of_heap (HK.out _ hb2)]; rfl
  have m10 : w2.cell? ⟨g, 10, none⟩ = some (.int .i64 k) := by rw [Lib.cell_of_heap (HK.out _ hb2)]; rfl
  go_upto_region 10 with (fail)
  have hex := Grew.all w2
  refine wp_region_grew (by kernel_rfl) (by kernel_rfl) ?_
  repeat (first | go_big_quiet_skip | (go_big_quiet_want; first | (refine quiet_load_mid 48 _ rfl _ _ rfl [.int .i64 z1, .int .i64 z2] _ (fun W hW => range2 (Grew.cell hW m2) (Grew.cell hW m3)) Try.underlying48 rfl (by kernel_rfl) ?_; simp only [Act.put, List.setIfInBounds_toArray, List.set_cons_succ, List.set_cons_zero]; go_big_quiet_on) | (refine quiet_load_cell _ _ rfl ⟨g, 10, none⟩ rfl _ _ Try.underlying3 rfl (fun W hW => Grew.cell hW m10) ?_; simp only [Act.put, List.setIfInBounds_toArray, List.set_cons_succ, List.set_cons_zero]; go_big_quiet_on) | (refine quiet_load_cell _ _ rfl ⟨g, 4, none⟩ rfl _ _ Try.underlying3 rfl (fun W hW => Grew.cell hW m4) ?_; simp only [Act.put, List.setIfInBounds_toArray, List.set_cons_succ, List.set_cons_zero]; go_big_quiet_on) | (refine quiet_load_cell _ _ rfl ⟨g, 5, none⟩ rfl _ _ Try.underlying3 rfl (fun W hW => Grew.cell hW m5) ?_; simp only [Act.put, List.setIfInBounds_toArray, List.set_cons_succ, List.set_cons_zero]; go_big_quiet_on) | (go_big_quiet_op; first | go_big_quiet_on | (apply Exists.intro; refine ⟨fun W hW => ?_, ?_⟩; (first | exact rfl | (go_at_call 59; with_reducible exact Calls.grew hW (H0.out _)) | (go_at_call 59; with_reducible exact Calls.grew hW (H1.out _)) | (go_at_call 59; with_reducible exact Calls.grew hW (H2.out _)) | (go_at_call 60; with_reducible exact Calls.grew hW (H3.out _))); go_big_quiet_on))))
  refine wpQuiet_nil ?_
  intro w3 hw3
  have hb3 : Below W.heap.size W w3 := hb2.trans (Below.mono (show Below w2.heap.size w2 w3 from hw3) hb2.size)
  clear hex
  go_wp2
  go_ret2
  exact ⟨by simp only [← bs_append]; rfl, by rw [HG.out]; exact HB.out _ hb3⟩
set_option maxRecDepth 100000 in
set_option maxHeartbeats 8000000 in
theorem refEnc_ack (f : Bool) (z : Int × Int) (hr : zxB z = true) (hz1 : i64B z.1) (hz2 : i64B z.2) (w : World) : Calls Try.prog 38 #[msgV (plM (.ack f z)) none 0] w fun e w' => EncSaid (numsL [5, flagI f, z.1, z.2]) 0 w e w' := by
  have HR := Lib.hid (fun X => refRight_ack f z X)
  rw [hr] at HR
  have HT := Lib.hid (fun X => refNumW_any 5 ⟨by decide, by decide⟩ X)
  have bT := numL_bd 5 ⟨by decide, by decide⟩
  have H0 := Lib.hid (fun X => refFlag_any f X)
  have b0 := numL_bd (flagI f) (flagI_i64 f)
  have H1 := Lib.hid (fun X => refLaid_any z hz1 hz2 X)
  have b1 := laidL_bd z hz1 hz2
  have HO : Hid (numsL [5, flagI f, z.1, z.2] = ((numL 5 ++ numL (flagI f)) ++ laidL z)) := by show _ = _; simp [numsL, laidL, List.append_assoc]
  rw [HO.out]
  clear HO
  generalize numL 5 = T at *
  generalize numL (flagI f) = N0 at *
  generalize laidL z = N1 at *
  have cT := bT
  rw [bs_size] at cT
  have c0 := b0
  rw [bs_size] at c0
  have c1 := b1
  rw [bs_size] at c1
  have s0 : ¬ 9223372036854775807 < (bs T).size + (bs N0).size := by simp only [bs_size]; omega
  have ss0 : ¬ 9223372036854775807 < (bs T).size + (bs N0).size := by simp only [bs_size]; omega
  have s1 : ¬ 9223372036854775807 < (bs T ++ bs N0).size + (bs N1).size := by simp only [bs_append, bs_size, List.length_append]; omega
  have ss1 : ¬ 9223372036854775807 < (bs T).size + (bs N0).size + (bs N1).size := by simp only [bs_size]; omega
  clear cT bT c0 b0 c1 b1
  obtain ⟨z1, z2⟩ := z
  try unfold zxidV at *
  unfold msgV msgCells plM at HR ⊢
  simp only [List.length_nil] at *
  obtain ⟨W, hW⟩ : ∃ X, X = w.alloc (.cells #[.int .i64 5, .int .i64 0, .int .i64 z1, .int .i64 z2, .int .i64 0, .int .i64 0, .int .i64 0, .int .i64 0, .int .i64 0, .int .i64 0, .int .i64 0, .string (bs []), .slice none 0 0, .bool f, .int .i64 0, .int .i64 0, .int .i64 0] 51) := ⟨_, rfl⟩
  have hB : Below w.heap.size w W := by rw [hW]; exact alloc_below w _
  have hk : W.heap[w.heap.size]? = some (.cells #[.int .i64 5, .int .i64 0, .int .i64 z1, .int .i64 z2, .int .i64 0, .int .i64 0, .int .i64 0, .int .i64 0, .int .i64 0, .int .i64 0, .int .i64 0, .string (bs []), .slice none 0 0, .bool f, .int .i64 0, .int .i64 0, .int .i64 0] 51 (0, 0)) := by rw [hW]; exact heap_alloc_new w _
  have HK := Lib.hid (fun X (hX : Below W.heap.size W X) => Grew.at_ hX hk)
  have HWe := Lib.hid hW
  have HB : Hid (∀ X, Below W.heap.size W X → Below w.heap.size w X) := fun X hX => hB.trans (hX.mono hB.size)
  clear hW hk hB
  go_enter Try.func38, Try.ntmps38
  go_upto_region 1 with (fail)
  rw [← HWe.out]
  clear HWe
  generalize hg : w.heap.size = g at *
  have HG := Lib.hid hg
  clear hg
  have hb0 := Below.refl W.heap.size W
  have m0 : W.cell? ⟨g, 0, none⟩ = some (.int .i64 5) := by rw [Lib.cell_of_heap (HK.out _ hb0)]; rfl
  have m1 : W.cell? ⟨g, 1, none⟩ = some (.int .i64 0) := by rw [Lib.cell_of_heap (HK.out _ hb0)]; rfl
  have m2 : W.cell? ⟨g, 2, none⟩ = some (.int .i64 z1) := by rw [Lib.cell_of_heap (HK.out _ hb0)]; rfl
  have m3 : W.cell? ⟨g, 3, none⟩ = some (.int .i64 z2) := by rw [Lib.cell_of_heap (HK.out _ hb0)]; rfl
  have m4 : W.cell? ⟨g, 4, none⟩ = some (.int .i64 0) := by rw [Lib.cell_of_heap (HK.out _ hb0)]; rfl
  have m5 : W.cell? ⟨g, 5, none⟩ = some (.int .i64 0) := by rw [Lib.cell_of_heap (HK.out _ hb0)]; rfl
  have m6 : W.cell? ⟨g, 6, none⟩ = some (.int .i64 0) := by rw [Lib.cell_of_heap (HK.out _ hb0)]; rfl
  have m7 : W.cell? ⟨g, 7, none⟩ = some (.int .i64 0) := by rw [Lib.cell_of_heap (HK.out _ hb0)]; rfl
  have m8 : W.cell? ⟨g, 8, none⟩ = some (.int .i64 0) := by rw [Lib.cell_of_heap (HK.out _ hb0)]; rfl
  have m9 : W.cell? ⟨g, 9, none⟩ = some (.int .i64 0) := by rw [Lib.cell_of_heap (HK.out _ hb0)]; rfl
  have m10 : W.cell? ⟨g, 10, none⟩ = some (.int .i64 0) := by rw [Lib.cell_of_heap (HK.out _ hb0)]; rfl
  have m11 : W.cell? ⟨g, 11, none⟩ = some (.string (bs [])) := by rw [Lib.cell_of_heap (HK.out _ hb0)]; rfl
  have m12 : W.cell? ⟨g, 12, none⟩ = some (.slice none 0 0) := by rw [Lib.cell_of_heap (HK.out _ hb0)]; rfl
  have m13 : W.cell? ⟨g, 13, none⟩ = some (.bool f) := by rw [Lib.cell_of_heap (HK.out _ hb0)]; rfl
  have m14 : W.cell? ⟨g, 14, none⟩ = some (.int .i64 0) := by rw [Lib.cell_of_heap (HK.out _ hb0)]; rfl
  have m15 : W.cell? ⟨g, 15, none⟩ = some (.int .i64 0) := by rw [Lib.cell_of_heap (HK.out _ hb0)]; rfl
  have m16 : W.cell? ⟨g, 16, none⟩ = some (.int .i64 0) := by rw [Lib.cell_of_heap (HK.out _ hb0)]; rfl
  go_wp2_with (fail)
  refine (HR.out _).mono ?_
  rintro e w1 ⟨rfl, hb1⟩
  clear m0 m1 m2 m3 m4 m5 m6 m7 m8 m9 m10 m11 m12 m13 m14 m15 m16
  have m0 : w1.cell? ⟨g, 0, none⟩ = some (.int .i64 5) := by rw [Lib.cell_of_heap (HK.out _ hb1)]; rfl
  go_wp2_with (fail)
  refine (HT.out _).mono ?_
  rintro e w2 ⟨rfl, hx2⟩
  have hb2 := hb1.trans (hx2.mono hb1.size)
  clear m0 hx2
  have m0 : w2.cell? ⟨g, 0, none⟩ = some (.int .i64 5) := by rw [Lib.cell_of_heap (HK.out _ hb2)]; rfl
  have m2 : w2.cell? ⟨g, 2, none⟩ = some (.int .i64 z1) := by rw [Lib.cell_of_heap (HK.out _ hb2)]; rfl
  have m3 : w2.cell? ⟨g, 3, none⟩ = some (.int .i64 z2) := by rw [Lib.cell_of_heap (HK.out _ hb2)]; rfl
  have m13 : w2.cell? ⟨g, 13, none⟩ = some (.bool f) := by rw [Lib.cell_of_heap (HK.out _ hb2)]; rfl
  go_upto_region 20 with (fail)
  have hex := Grew.all w2
  refine wp_region_grew (by kernel_rfl) (by kernel_rfl) ?_
  repeat (first | go_big_quiet_skip | (go_big_quiet_want; first | (refine quiet_load_mid 48 _ rfl _ _ rfl [.int .i64 z1, .int .i64 z2] _ (fun W hW => range2 (Grew.cell hW m2) (Grew.cell hW m3)) Try.underlying48 rfl (by kernel_rfl) ?_; simp only [Act.put, List.setIfInBounds_toArray, List.set_cons_succ, List.set_cons_zero]; go_big_quiet_on) | (refine quiet_load_cell _ _ rfl ⟨g, 13, none⟩ rfl _ _ Try.underlying4 rfl (fun W hW => Grew.cell hW m13) ?_; simp only [Act.put, List.setIfInBounds_toArray, List.set_cons_succ, List.set_cons_zero]; go_big_quiet_on) | (go_big_quiet_op; first | go_big_quiet_on | (apply Exists.intro; refine ⟨fun W hW => ?_, ?_⟩; (first | exact rfl | (go_at_call 61; with_reducible exact Calls.grew hW (H0.out _)) | (go_at_call 60; with_reducible exact Calls.grew hW (H1.out _))); go_big_quiet_on))))
  refine wpQuiet_nil ?_
  intro w3 hw3
  have hb3 : Below W.heap.size W w3 := hb2.trans (Below.mono (show Below w2.heap.size w2 w3 from hw3) hb2.size)
  clear hex
  go_wp2
  go_ret2
  exact ⟨by simp only [← bs_append]; rfl, by rw [HG.out]; exact HB.out _ hb3⟩
set_option maxRecDepth 100000 in
set_option maxHeartbeats 8000000 in
theorem refEnc_ask (n c q : Int) (f : Bool) (b : List UInt8) (hr : withinB [n, c, q] = true) (hn : i64B n) (hc : i64B c) (hq : i64B q) (hbl : b.length ≤ 1000000) (w : World) : Calls Try.prog 38 #[msgV (plM (.ask n c q f b)) none 0] w fun e w' => EncSaid (numsL [6, n, c, q, flagI f] ++ textL b) 0 w e w' := by
  have HR := Lib.hid (fun X => refRight_ask n c q f b X)
  rw [hr] at HR
  have HT := Lib.hid (fun X => refNumW_any 6 ⟨by decide, by decide⟩ X)
  have bT := numL_bd 6 ⟨by decide, by decide⟩
  have H0 := Lib.hid (fun X => refNumW_any n hn X)
  have b0 := numL_bd n hn
  have H1 := Lib.hid (fun X => refNumW_any c hc X)
  have b1 := numL_bd c hc
  have H2 := Lib.hid (fun X => refNumW_any q hq X)
  have b2 := numL_bd q hq
  have H3 := Lib.hid (fun X => refFlag_any f X)
  have b3 := numL_bd (flagI f) (flagI_i64 f)
  have H4 := Lib.hid (fun X => reftext_any b (by omega) X)
  have b4 := textL_bd b hbl
  have HO : Hid (numsL [6, n, c, q, flagI f] ++ textL b = (((((numL 6 ++ numL n) ++ numL c) ++ numL q) ++ numL (flagI f)) ++ textL b)) := by show _ = _; simp [numsL, laidL, List.append_assoc]
  rw [HO.out]
  clear HO
  generalize numL 6 = T at *
  generalize numL n = N0 at *
  generalize numL c = N1 at *
  generalize numL q = N2 at *
  generalize numL (flagI f) = N3 at *
  generalize textL b = N4 at *
  have cT := bT
  rw [bs_size] at cT
  have c0 := b0
  rw [bs_size] at c0
  have c1 := b1
  rw [bs_size] at c1
  have c2 := b2
  rw [bs_size] at c2
  have c3 := b3
  rw [bs_size] at c3
  have c4 := b4
  rw [bs_size] at c4
  have s0 : ¬ 9223372036854775807 < (bs T).size + (bs N0).size := by simp only [bs_size]; omega
  have ss0 : ¬ 9223372036854775807 < (bs T).size + (bs N0).size := by simp only [bs_size]; omega
  have s1 : ¬ 9223372036854775807 < (bs T ++ bs N0).size + (bs N1).size := by simp only [bs_append, bs_size, List.length_append]; omega
  have ss1 : ¬ 9223372036854775807 < (bs T).size + (bs N0).size + (bs N1).size := by simp only [bs_size]; omega
  have s2 : ¬ 9223372036854775807 < (bs T ++ bs N0 ++ bs N1).size + (bs N2).size := by simp only [bs_append, bs_size, List.length_append]; omega
  have ss2 : ¬ 9223372036854775807 < (bs T).size + (bs N0).size + (bs N1).size + (bs N2).size := by simp only [bs_size]; omega
  have s3 : ¬ 9223372036854775807 < (bs T ++ bs N0 ++ bs N1 ++ bs N2).size + (bs N3).size := by simp only [bs_append, bs_size, List.length_append]; omega
  have ss3 : ¬ 9223372036854775807 < (bs T).size + (bs N0).size + (bs N1).size + (bs N2).size + (bs N3).size := by simp only [bs_size]; omega
  have s4 : ¬ 9223372036854775807 < (bs T ++ bs N0 ++ bs N1 ++ bs N2 ++ bs N3).size + (bs N4).size := by simp only [bs_append, bs_size, List.length_append]; omega
  have ss4 : ¬ 9223372036854775807 < (bs T).size + (bs N0).size + (bs N1).size + (bs N2).size + (bs N3).size + (bs N4).size := by simp only [bs_size]; omega
  clear cT bT c0 b0 c1 b1 c2 b2 c3 b3 c4 b4
  try unfold zxidV at *
  unfold msgV msgCells plM at HR ⊢
  simp only [List.length_nil] at *
  obtain ⟨W, hW⟩ : ∃ X, X = w.alloc (.cells #[.int .i64 6, .int .i64 0, .int .i64 0, .int .i64 0, .int .i64 0, .int .i64 0, .int .i64 0, .int .i64 0, .int .i64 0, .int .i64 0, .int .i64 0, .string (bs b), .slice none 0 0, .bool f, .int .i64 n, .int .i64 c, .int .i64 q] 51) := ⟨_, rfl⟩
  have hB : Below w.heap.size w W := by rw [hW]; exact alloc_below w _
  have hk : W.heap[w.heap.size]? = some (.cells #[.int .i64 6, .int .i64 0, .int .i64 0, .int .i64 0, .int .i64 0, .int .i64 0, .int .i64 0, .int .i64 0, .int .i64 0, .int .i64 0, .int .i64 0, .string (bs b), .slice none 0 0, .bool f, .int .i64 n, .int .i64 c, .int .i64 q] 51 (0, 0)) := by rw [hW]; exact heap_alloc_new w _
  have HK := Lib.hid (fun X (hX : Below W.heap.size W X) => Grew.at_ hX hk)
  have HWe := Lib.hid hW
  have HB : Hid (∀ X, Below W.heap.size W X → Below w.heap.size w X) := fun X hX => hB.trans (hX.mono hB.size)
  clear hW hk hB
  go_enter Try.func38, Try.ntmps38
  go_upto_region 1 with (fail)
  rw [← HWe.out]
  clear HWe
  generalize hg : w.heap.size = g at *
  have HG := Lib.hid hg
  clear hg
  have hb0 := Below.refl W.heap.size W
  have m0 : W.cell? ⟨g, 0, none⟩ = some (.int .i64 6) := by rw [Lib.cell_of_heap (HK.out _ hb0)]; rfl
  have m1 : W.cell? ⟨g, 1, none⟩ = some (.int .i64 0) := by rw [Lib.cell_of_heap (HK.out _ hb0)]; rfl
  have m2 : W.cell? ⟨g, 2, none⟩ = some (.int .i64 0) := by rw [Lib.cell_of_heap (HK.out _ hb0)]; rfl
  have m3 : W.cell? ⟨g, 3, none⟩ = some (.int .i64 0) := by rw [Lib.cell_of_heap (HK.out _ hb0)]; rfl
  have m4 : W.cell? ⟨g, 4, none⟩ = some (.int .i64 0) := by rw [Lib.cell_of_heap (HK.out _ hb0)]; rfl
  have m5 : W.cell? ⟨g, 5, none⟩ = some (.int .i64 0) := by rw [Lib.cell_of_heap (HK.out _ hb0)]; rfl
  have m6 : W.cell? ⟨g, 6, none⟩ = some (.int .i64 0) := by rw [Lib.cell_of_heap (HK.out _ hb0)]; rfl
  have m7 : W.cell? ⟨g, 7, none⟩ = some (.int .i64 0) := by rw [Lib.cell_of_heap (HK.out _ hb0)]; rfl
  have m8 : W.cell? ⟨g, 8, none⟩ = some (.int .i64 0) := by rw [Lib.cell_of_heap (HK.out _ hb0)]; rfl
  have m9 : W.cell? ⟨g, 9, none⟩ = some (.int .i64 0) := by rw [Lib.cell_of_heap (HK.out _ hb0)]; rfl
  have m10 : W.cell? ⟨g, 10, none⟩ = some (.int .i64 0) := by rw [Lib.cell_of_heap (HK.out _ hb0)]; rfl
  have m11 : W.cell? ⟨g, 11, none⟩ = some (.string (bs b)) := by rw [Lib.cell_of_heap (HK.out _ hb0)]; rfl
  have m12 : W.cell? ⟨g, 12, none⟩ = some (.slice none 0 0) := by rw [Lib.cell_of_heap (HK.out _ hb0)]; rfl
  have m13 : W.cell? ⟨g, 13, none⟩ = some (.bool f) := by rw [Lib.cell_of_heap (HK.out _ hb0)]; rfl
  have m14 : W.cell? ⟨g, 14, none⟩ = some (.int .i64 n) := by rw [Lib.cell_of_heap (HK.out _ hb0)]; rfl
  have m15 : W.cell? ⟨g, 15, none⟩ = some (.int .i64 c) := by rw [Lib.cell_of_heap (HK.out _ hb0)]; rfl
  have m16 : W.cell? ⟨g, 16, none⟩ = some (.int .i64 q) := by rw [Lib.cell_of_heap (HK.out _ hb0)]; rfl
  go_wp2_with (fail)
  refine (HR.out _).mono ?_
  rintro e w1 ⟨rfl, hb1⟩
  clear m0 m1 m2 m3 m4 m5 m6 m7 m8 m9 m10 m11 m12 m13 m14 m15 m16
  have m0 : w1.cell? ⟨g, 0, none⟩ = some (.int .i64 6) := by rw [Lib.cell_of_heap (HK.out _ hb1)]; rfl
  go_wp2_with (fail)
  refine (HT.out _).mono ?_
  rintro e w2 ⟨rfl, hx2⟩
  have hb2 := hb1.trans (hx2.mono hb1.size)
  clear m0 hx2
  have m0 : w2.cell? ⟨g, 0, none⟩ = some (.int .i64 6) := by rw [Lib.cell_of_heap (HK.out _ hb2)]; rfl
  have m11 : w2.cell? ⟨g, 11, none⟩ = some (.string (bs b)) := by rw [Lib.cell_of_heap (HK.out _ hb2)]; rfl
  have m13 : w2.cell? ⟨g, 13, none⟩ = some (.bool f) := by rw [Lib.cell_of_heap (HK.out _ hb2)]; rfl
  have m14 : w2.cell? ⟨g, 14, none⟩ = some (.int .i64 n) := by rw [Lib.cell_of_heap (HK.out _ hb2)]; rfl
  have m15 : w2.cell? ⟨g, 15, none⟩ = some (.int .i64 c) := by rw [Lib.cell_of_heap (HK.out _ hb2)]; rfl
  have m16 : w2.cell? ⟨g, 16, none⟩ = some (.int .i64 q) := by rw [Lib.cell_of_heap (HK.out _ hb2)]; rfl
  go_upto_region 22 with (fail)
  have hex := Grew.all w2
  refine wp_region_grew (by kernel_rfl) (by kernel_rfl) ?_
  repeat (first | go_big_quiet_skip | (go_big_quiet_want; first | (refine quiet_load_cell _ _ rfl ⟨g, 14, none⟩ rfl _ _ Try.underlying3 rfl (fun W hW => Grew.cell hW m14) ?_; simp only [Act.put, List.setIfInBounds_toArray, List.set_cons_succ, List.set_cons_zero]; go_big_quiet_on) | (refine quiet_load_cell _ _ rfl ⟨g, 15, none⟩ rfl _ _ Try.underlying3 rfl (fun W hW => Grew.cell hW m15) ?_; simp only [Act.put, List.setIfInBounds_toArray, List.set_cons_succ, List.set_cons_zero]; go_big_quiet_on) | (refine quiet_load_cell _ _ rfl ⟨g, 16, none⟩ rfl _ _ Try.underlying3 rfl (fun W hW => Grew.cell hW m16) ?_; simp only [Act.put, List.setIfInBounds_toArray, List.set_cons_succ, List.set_cons_zero]; go_big_quiet_on) | (refine quiet_load_cell _ _ rfl ⟨g, 13, none⟩ rfl _ _ Try.underlying4 rfl (fun W hW => Grew.cell hW m13) ?_; simp only [Act.put, List.setIfInBounds_toArray, List.set_cons_succ, List.set_cons_zero]; go_big_quiet_on) | (refine quiet_load_cell _ _ rfl ⟨g, 11, none⟩ rfl _ _ Try.underlying9 rfl (fun W hW => Grew.cell hW m11) ?_; simp only [Act.put, List.setIfInBounds_toArray, List.set_cons_succ, List.set_cons_zero]; go_big_quiet_on) | (go_big_quiet_op; first | go_big_quiet_on | (apply Exists.intro; refine ⟨fun W hW => ?_, ?_⟩; (first | exact rfl | (go_at_call 59; with_reducible exact Calls.grew hW (H0.out _)) | (go_at_call 59; with_reducible exact Calls.grew hW (H1.out _)) | (go_at_call 59; with_reducible exact Calls.grew hW (H2.out _)) | (go_at_call 61; with_reducible exact Calls.grew hW (H3.out _)) | (go_at_call 19; with_reducible exact Calls.grew hW (H4.out _))); go_big_quiet_on))))
  refine wpQuiet_nil ?_
  intro w3 hw3
  have hb3 : Below W.heap.size W w3 := hb2.trans (Below.mono (show Below w2.heap.size w2 w3 from hw3) hb2.size)
  clear hex
  go_wp2
  go_ret2
  exact ⟨by simp only [← bs_append]; rfl, by rw [HG.out]; exact HB.out _ hb3⟩
end Go.Proofs.Ytlbacddgjagcbaa
