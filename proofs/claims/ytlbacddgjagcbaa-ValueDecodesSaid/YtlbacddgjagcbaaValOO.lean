/- The law ValueOrders, walked case by case (printed by gen/genValOO.py). Conditions: as each theorem says. -/
import Derived.Test.YtlbacddgjagcbaaValO
namespace Go.Proofs.Ytlbacddgjagcbaa
open Go.RowKit

set_option maxRecDepth 100000 in
set_option maxHeartbeats 2000000 in
theorem orders_yes (a1 a2 b1 b2 c1 c2 : Int) (w : World)
    (hne : ((a1 == b1) = true ∧ (a2 == b2) = false) ∨ (a1 == b1) = false)
    (h1 : ∀ X, Calls Try.prog 41 #[.agg #[.int .i64 a1, .int .i64 a2], .agg #[.int .i64 b1, .int .i64 b2]] X fun e w' => e = .returned (.bool true) ∧ Below X.heap.size X w')
    (h2 : ∀ X, Calls Try.prog 41 #[.agg #[.int .i64 b1, .int .i64 b2], .agg #[.int .i64 c1, .int .i64 c2]] X fun e w' => e = .returned (.bool false) ∧ Below X.heap.size X w')
    (h3 : ∀ X, Calls Try.prog 41 #[.agg #[.int .i64 b1, .int .i64 b2], .agg #[.int .i64 a1, .int .i64 a2]] X fun e w' => e = .returned (.bool false) ∧ Below X.heap.size X w')
    (h5 : ∀ X, Calls Try.prog 42 #[.agg #[.int .i64 a1, .int .i64 a2], .agg #[.int .i64 b1, .int .i64 b2]] X fun e w' => e = .returned (.bool true) ∧ Below X.heap.size X w')
    (h6 : ∀ X, Calls Try.prog 43 #[.agg #[.int .i64 a1, .int .i64 a2]] X fun e w' => e = .returned (.agg #[.int .i64 a1, .int .i64 a2]) ∧ Below X.heap.size X w')
    (h7 : ∀ X, Calls Try.prog 43 #[.agg #[.int .i64 b1, .int .i64 b2]] X fun e w' => e = .returned (.agg #[.int .i64 b1, .int .i64 b2]) ∧ Below X.heap.size X w') :
    Calls Try.prog 12 #[.agg #[.int .i64 a1, .int .i64 a2], .agg #[.int .i64 b1, .int .i64 b2], .agg #[.int .i64 c1, .int .i64 c2]] w fun e w' => e = .returned (.bool true) ∧ Below w.heap.size w w' := by
  have H1 := Lib.hid h1
  have H2 := Lib.hid h2
  have H3 := Lib.hid h3
  have H5 := Lib.hid h5
  have H6 := Lib.hid h6
  have H7 := Lib.hid h7
  have HW := Lib.hid (fun X => wake_any X)
  have HN := Lib.hid hne
  clear hne
  clear h1 h2 h3 h5 h6 h7
  go_enter Try.func12, Try.ntmps12
  go_wp2_with (fail)
  have HB := Lib.hid (((alloc_below w (.cells #[.int .i64 a1, .int .i64 a2] 59)).alloc (by simp) (.cells #[.int .i64 b1, .int .i64 b2] 59)).alloc (by simp; omega) (.cells #[.int .i64 c1, .int .i64 c2] 59))
  have ka1 : (((w.alloc (.cells #[.int .i64 a1, .int .i64 a2] 59)).alloc (.cells #[.int .i64 b1, .int .i64 b2] 59)).alloc (.cells #[.int .i64 c1, .int .i64 c2] 59)).cell? ⟨w.heap.size, 0, none⟩ = some (.int .i64 a1) := by simp [go_sem]
  have ka2 : (((w.alloc (.cells #[.int .i64 a1, .int .i64 a2] 59)).alloc (.cells #[.int .i64 b1, .int .i64 b2] 59)).alloc (.cells #[.int .i64 c1, .int .i64 c2] 59)).cell? ⟨w.heap.size, 1, none⟩ = some (.int .i64 a2) := by simp [go_sem]
  have kb1 : (((w.alloc (.cells #[.int .i64 a1, .int .i64 a2] 59)).alloc (.cells #[.int .i64 b1, .int .i64 b2] 59)).alloc (.cells #[.int .i64 c1, .int .i64 c2] 59)).cell? ⟨w.heap.size + 1, 0, none⟩ = some (.int .i64 b1) := by simp [go_sem]
  have kb2 : (((w.alloc (.cells #[.int .i64 a1, .int .i64 a2] 59)).alloc (.cells #[.int .i64 b1, .int .i64 b2] 59)).alloc (.cells #[.int .i64 c1, .int .i64 c2] 59)).cell? ⟨w.heap.size + 1, 1, none⟩ = some (.int .i64 b2) := by simp [go_sem]
  have kc1 : (((w.alloc (.cells #[.int .i64 a1, .int .i64 a2] 59)).alloc (.cells #[.int .i64 b1, .int .i64 b2] 59)).alloc (.cells #[.int .i64 c1, .int .i64 c2] 59)).cell? ⟨w.heap.size + 1 + 1, 0, none⟩ = some (.int .i64 c1) := by simp [go_sem]
  have kc2 : (((w.alloc (.cells #[.int .i64 a1, .int .i64 a2] 59)).alloc (.cells #[.int .i64 b1, .int .i64 b2] 59)).alloc (.cells #[.int .i64 c1, .int .i64 c2] 59)).cell? ⟨w.heap.size + 1 + 1, 1, none⟩ = some (.int .i64 c2) := by simp [go_sem]
  generalize hW : (((w.alloc (.cells #[.int .i64 a1, .int .i64 a2] 59)).alloc (.cells #[.int .i64 b1, .int .i64 b2] 59)).alloc (.cells #[.int .i64 c1, .int .i64 c2] 59)) = W at *
  clear hW
  refine (H1.out _).mono ?_
  rintro e w1 ⟨rfl, hB⟩
  have ma1 := Grew.cell hB ka1
  have ma2 := Grew.cell hB ka2
  have mb1 := Grew.cell hB kb1
  have mb2 := Grew.cell hB kb2
  have mc1 := Grew.cell hB kc1
  have mc2 := Grew.cell hB kc2
  go_wp2_with (fail)
  refine (H2.out _).mono ?_
  rintro e w2 ⟨rfl, hb2⟩
  have hB := hB.trans (hb2.mono hB.size)
  clear hb2 ma1 ma2 mb1 mb2 mc1 mc2
  have ma1 := Grew.cell hB ka1
  have ma2 := Grew.cell hB ka2
  have mb1 := Grew.cell hB kb1
  have mb2 := Grew.cell hB kb2
  have mc1 := Grew.cell hB kc1
  have mc2 := Grew.cell hB kc2
  go_upto_region 3 with (fail)
  have hex := Grew.all w2
  refine wp_region_grew (by kernel_rfl) (by kernel_rfl) ?_
  repeat (first | go_big_quiet_skip | (go_big_quiet_want; first | (refine quiet_load_mid 59 _ rfl _ _ rfl [.int .i64 a1, .int .i64 a2] _ (fun W hW => range2 (Grew.cell hW ma1) (Grew.cell hW ma2)) Try.underlying59 rfl (by kernel_rfl) ?_; simp only [Act.put, List.setIfInBounds_toArray, List.set_cons_succ, List.set_cons_zero]; go_big_quiet_on) | (refine quiet_load_mid 59 _ rfl _ _ rfl [.int .i64 b1, .int .i64 b2] _ (fun W hW => range2 (Grew.cell hW mb1) (Grew.cell hW mb2)) Try.underlying59 rfl (by kernel_rfl) ?_; simp only [Act.put, List.setIfInBounds_toArray, List.set_cons_succ, List.set_cons_zero]; go_big_quiet_on) | (refine quiet_load_mid 59 _ rfl _ _ rfl [.int .i64 c1, .int .i64 c2] _ (fun W hW => range2 (Grew.cell hW mc1) (Grew.cell hW mc2)) Try.underlying59 rfl (by kernel_rfl) ?_; simp only [Act.put, List.setIfInBounds_toArray, List.set_cons_succ, List.set_cons_zero]; go_big_quiet_on) | (go_big_quiet_op; first | go_big_quiet_on | (apply Exists.intro; refine ⟨fun W hW => ?_, ?_⟩; (first | exact rfl | (go_at_call 41; with_reducible exact Calls.grew hW (H3.out _)) | (go_at_call 42; with_reducible exact Calls.grew hW (H5.out _)) | (go_at_call 43; with_reducible exact Calls.grew hW (H6.out _)) | (go_at_call 43; with_reducible exact Calls.grew hW (H7.out _)) | (go_at_call 35; with_reducible exact Calls.grew hW (HW.out _))); go_big_quiet_on))))
  refine wpQuiet_nil ?_
  intro w3 hw3
  have hB := hB.trans (Below.mono (show Below w2.heap.size w2 w3 from hw3) hB.size)
  clear hex hw3 ma1 ma2 mb1 mb2 mc1 mc2
  have ma1 := Grew.cell hB ka1
  have ma2 := Grew.cell hB ka2
  have mb1 := Grew.cell hB kb1
  have mb2 := Grew.cell hB kb2
  have mc1 := Grew.cell hB kc1
  have mc2 := Grew.cell hB kc2
  go_upto_region 5 with (fail)
  rcases HN.out with ⟨q1, q2⟩ | q1
  · have hex := Grew.all w3
    refine wp_region_grew (by kernel_rfl) (by kernel_rfl) ?_
    repeat (first | go_big_quiet_skip | (go_big_quiet_want; first | (refine quiet_load_mid 59 _ rfl _ _ rfl [.int .i64 a1, .int .i64 a2] _ (fun W hW => range2 (Grew.cell hW ma1) (Grew.cell hW ma2)) Try.underlying59 rfl (by kernel_rfl) ?_; simp only [Act.put, List.setIfInBounds_toArray, List.set_cons_succ, List.set_cons_zero]; go_big_quiet_on) | (refine quiet_load_mid 59 _ rfl _ _ rfl [.int .i64 b1, .int .i64 b2] _ (fun W hW => range2 (Grew.cell hW mb1) (Grew.cell hW mb2)) Try.underlying59 rfl (by kernel_rfl) ?_; simp only [Act.put, List.setIfInBounds_toArray, List.set_cons_succ, List.set_cons_zero]; go_big_quiet_on) | (refine quiet_load_mid 59 _ rfl _ _ rfl [.int .i64 c1, .int .i64 c2] _ (fun W hW => range2 (Grew.cell hW mc1) (Grew.cell hW mc2)) Try.underlying59 rfl (by kernel_rfl) ?_; simp only [Act.put, List.setIfInBounds_toArray, List.set_cons_succ, List.set_cons_zero]; go_big_quiet_on) | (go_big_quiet_op; first | go_big_quiet_on | (apply Exists.intro; refine ⟨fun W hW => ?_, ?_⟩; (first | exact rfl | (go_at_call 41; with_reducible exact Calls.grew hW (H3.out _)) | (go_at_call 42; with_reducible exact Calls.grew hW (H5.out _)) | (go_at_call 43; with_reducible exact Calls.grew hW (H6.out _)) | (go_at_call 43; with_reducible exact Calls.grew hW (H7.out _)) | (go_at_call 35; with_reducible exact Calls.grew hW (HW.out _))); go_big_quiet_on))))
    refine wpQuiet_nil ?_
    intro w4 hw4
    have hB := hB.trans (Below.mono (show Below w3.heap.size w3 w4 from hw4) hB.size)
    clear hex hw4
    go_wp2
    go_ret
    exact ⟨rfl, HB.out.trans (hB.mono HB.out.size)⟩
  · have hex := Grew.all w3
    refine wp_region_grew (by kernel_rfl) (by kernel_rfl) ?_
    repeat (first | go_big_quiet_skip | (go_big_quiet_want; first | (refine quiet_load_mid 59 _ rfl _ _ rfl [.int .i64 a1, .int .i64 a2] _ (fun W hW => range2 (Grew.cell hW ma1) (Grew.cell hW ma2)) Try.underlying59 rfl (by kernel_rfl) ?_; simp only [Act.put, List.setIfInBounds_toArray, List.set_cons_succ, List.set_cons_zero]; go_big_quiet_on) | (refine quiet_load_mid 59 _ rfl _ _ rfl [.int .i64 b1, .int .i64 b2] _ (fun W hW => range2 (Grew.cell hW mb1) (Grew.cell hW mb2)) Try.underlying59 rfl (by kernel_rfl) ?_; simp only [Act.put, List.setIfInBounds_toArray, List.set_cons_succ, List.set_cons_zero]; go_big_quiet_on) | (refine quiet_load_mid 59 _ rfl _ _ rfl [.int .i64 c1, .int .i64 c2] _ (fun W hW => range2 (Grew.cell hW mc1) (Grew.cell hW mc2)) Try.underlying59 rfl (by kernel_rfl) ?_; simp only [Act.put, List.setIfInBounds_toArray, List.set_cons_succ, List.set_cons_zero]; go_big_quiet_on) | (go_big_quiet_op; first | go_big_quiet_on | (apply Exists.intro; refine ⟨fun W hW => ?_, ?_⟩; (first | exact rfl | (go_at_call 41; with_reducible exact Calls.grew hW (H3.out _)) | (go_at_call 42; with_reducible exact Calls.grew hW (H5.out _)) | (go_at_call 43; with_reducible exact Calls.grew hW (H6.out _)) | (go_at_call 43; with_reducible exact Calls.grew hW (H7.out _)) | (go_at_call 35; with_reducible exact Calls.grew hW (HW.out _))); go_big_quiet_on))))
    refine wpQuiet_nil ?_
    intro w4 hw4
    have hB := hB.trans (Below.mono (show Below w3.heap.size w3 w4 from hw4) hB.size)
    clear hex hw4
    go_wp2
    go_ret
    exact ⟨rfl, HB.out.trans (hB.mono HB.out.size)⟩
set_option maxRecDepth 100000 in
set_option maxHeartbeats 2000000 in
theorem orders_both (a1 a2 b1 b2 c1 c2 : Int) (w : World)
    (hne : ((a1 == b1) = true ∧ (a2 == b2) = false) ∨ (a1 == b1) = false)
    (h1 : ∀ X, Calls Try.prog 41 #[.agg #[.int .i64 a1, .int .i64 a2], .agg #[.int .i64 b1, .int .i64 b2]] X fun e w' => e = .returned (.bool true) ∧ Below X.heap.size X w')
    (h2 : ∀ X, Calls Try.prog 41 #[.agg #[.int .i64 b1, .int .i64 b2], .agg #[.int .i64 c1, .int .i64 c2]] X fun e w' => e = .returned (.bool true) ∧ Below X.heap.size X w')
    (h3 : ∀ X, Calls Try.prog 41 #[.agg #[.int .i64 b1, .int .i64 b2], .agg #[.int .i64 a1, .int .i64 a2]] X fun e w' => e = .returned (.bool false) ∧ Below X.heap.size X w')
    (h4 : ∀ X, Calls Try.prog 41 #[.agg #[.int .i64 a1, .int .i64 a2], .agg #[.int .i64 c1, .int .i64 c2]] X fun e w' => e = .returned (.bool true) ∧ Below X.heap.size X w')
    (h5 : ∀ X, Calls Try.prog 42 #[.agg #[.int .i64 a1, .int .i64 a2], .agg #[.int .i64 b1, .int .i64 b2]] X fun e w' => e = .returned (.bool true) ∧ Below X.heap.size X w')
    (h6 : ∀ X, Calls Try.prog 43 #[.agg #[.int .i64 a1, .int .i64 a2]] X fun e w' => e = .returned (.agg #[.int .i64 a1, .int .i64 a2]) ∧ Below X.heap.size X w')
    (h7 : ∀ X, Calls Try.prog 43 #[.agg #[.int .i64 b1, .int .i64 b2]] X fun e w' => e = .returned (.agg #[.int .i64 b1, .int .i64 b2]) ∧ Below X.heap.size X w') :
    Calls Try.prog 12 #[.agg #[.int .i64 a1, .int .i64 a2], .agg #[.int .i64 b1, .int .i64 b2], .agg #[.int .i64 c1, .int .i64 c2]] w fun e w' => e = .returned (.bool true) ∧ Below w.heap.size w w' := by
  have H1 := Lib.hid h1
  have H2 := Lib.hid h2
  have H3 := Lib.hid h3
  have H4 := Lib.hid h4
  have H5 := Lib.hid h5
  have H6 := Lib.hid h6
  have H7 := Lib.hid h7
  have HW := Lib.hid (fun X => wake_any X)
  have HN := Lib.hid hne
  clear hne
  clear h1 h2 h3 h4 h5 h6 h7
  go_enter Try.func12, Try.ntmps12
  go_wp2_with (fail)
  have HB := Lib.hid (((alloc_below w (.cells #[.int .i64 a1, .int .i64 a2] 59)).alloc (by simp) (.cells #[.int .i64 b1, .int .i64 b2] 59)).alloc (by simp; omega) (.cells #[.int .i64 c1, .int .i64 c2] 59))
  have ka1 : (((w.alloc (.cells #[.int .i64 a1, .int .i64 a2] 59)).alloc (.cells #[.int .i64 b1, .int .i64 b2] 59)).alloc (.cells #[.int .i64 c1, .int .i64 c2] 59)).cell? ⟨w.heap.size, 0, none⟩ = some (.int .i64 a1) := by simp [go_sem]
  have ka2 : (((w.alloc (.cells #[.int .i64 a1, .int .i64 a2] 59)).alloc (.cells #[.int .i64 b1, .int .i64 b2] 59)).alloc (.cells #[.int .i64 c1, .int .i64 c2] 59)).cell? ⟨w.heap.size, 1, none⟩ = some (.int .i64 a2) := by simp [go_sem]
  have kb1 : (((w.alloc (.cells #[.int .i64 a1, .int .i64 a2] 59)).alloc (.cells #[.int .i64 b1, .int .i64 b2] 59)).alloc (.cells #[.int .i64 c1, .int .i64 c2] 59)).cell? ⟨w.heap.size + 1, 0, none⟩ = some (.int .i64 b1) := by simp [go_sem]
  have kb2 : (((w.alloc (.cells #[.int .i64 a1, .int .i64 a2] 59)).alloc (.cells #[.int .i64 b1, .int .i64 b2] 59)).alloc (.cells #[.int .i64 c1, .int .i64 c2] 59)).cell? ⟨w.heap.size + 1, 1, none⟩ = some (.int .i64 b2) := by simp [go_sem]
  have kc1 : (((w.alloc (.cells #[.int .i64 a1, .int .i64 a2] 59)).alloc (.cells #[.int .i64 b1, .int .i64 b2] 59)).alloc (.cells #[.int .i64 c1, .int .i64 c2] 59)).cell? ⟨w.heap.size + 1 + 1, 0, none⟩ = some (.int .i64 c1) := by simp [go_sem]
  have kc2 : (((w.alloc (.cells #[.int .i64 a1, .int .i64 a2] 59)).alloc (.cells #[.int .i64 b1, .int .i64 b2] 59)).alloc (.cells #[.int .i64 c1, .int .i64 c2] 59)).cell? ⟨w.heap.size + 1 + 1, 1, none⟩ = some (.int .i64 c2) := by simp [go_sem]
  generalize hW : (((w.alloc (.cells #[.int .i64 a1, .int .i64 a2] 59)).alloc (.cells #[.int .i64 b1, .int .i64 b2] 59)).alloc (.cells #[.int .i64 c1, .int .i64 c2] 59)) = W at *
  clear hW
  refine (H1.out _).mono ?_
  rintro e w1 ⟨rfl, hB⟩
  have ma1 := Grew.cell hB ka1
  have ma2 := Grew.cell hB ka2
  have mb1 := Grew.cell hB kb1
  have mb2 := Grew.cell hB kb2
  have mc1 := Grew.cell hB kc1
  have mc2 := Grew.cell hB kc2
  go_wp2_with (fail)
  refine (H2.out _).mono ?_
  rintro e w2 ⟨rfl, hb2⟩
  have hB := hB.trans (hb2.mono hB.size)
  clear hb2 ma1 ma2 mb1 mb2 mc1 mc2
  have ma1 := Grew.cell hB ka1
  have ma2 := Grew.cell hB ka2
  have mb1 := Grew.cell hB kb1
  have mb2 := Grew.cell hB kb2
  have mc1 := Grew.cell hB kc1
  have mc2 := Grew.cell hB kc2
  go_upto_region 3 with (fail)
  have hex := Grew.all w2
  refine wp_region_grew (by kernel_rfl) (by kernel_rfl) ?_
  repeat (first | go_big_quiet_skip | (go_big_quiet_want; first | (refine quiet_load_mid 59 _ rfl _ _ rfl [.int .i64 a1, .int .i64 a2] _ (fun W hW => range2 (Grew.cell hW ma1) (Grew.cell hW ma2)) Try.underlying59 rfl (by kernel_rfl) ?_; simp only [Act.put, List.setIfInBounds_toArray, List.set_cons_succ, List.set_cons_zero]; go_big_quiet_on) | (refine quiet_load_mid 59 _ rfl _ _ rfl [.int .i64 b1, .int .i64 b2] _ (fun W hW => range2 (Grew.cell hW mb1) (Grew.cell hW mb2)) Try.underlying59 rfl (by kernel_rfl) ?_; simp only [Act.put, List.setIfInBounds_toArray, List.set_cons_succ, List.set_cons_zero]; go_big_quiet_on) | (refine quiet_load_mid 59 _ rfl _ _ rfl [.int .i64 c1, .int .i64 c2] _ (fun W hW => range2 (Grew.cell hW mc1) (Grew.cell hW mc2)) Try.underlying59 rfl (by kernel_rfl) ?_; simp only [Act.put, List.setIfInBounds_toArray, List.set_cons_succ, List.set_cons_zero]; go_big_quiet_on) | (go_big_quiet_op; first | go_big_quiet_on | (apply Exists.intro; refine ⟨fun W hW => ?_, ?_⟩; (first | exact rfl | (go_at_call 41; with_reducible exact Calls.grew hW (H3.out _)) | (go_at_call 41; with_reducible exact Calls.grew hW (H4.out _)) | (go_at_call 42; with_reducible exact Calls.grew hW (H5.out _)) | (go_at_call 43; with_reducible exact Calls.grew hW (H6.out _)) | (go_at_call 43; with_reducible exact Calls.grew hW (H7.out _)) | (go_at_call 35; with_reducible exact Calls.grew hW (HW.out _))); go_big_quiet_on))))
  refine wpQuiet_nil ?_
  intro w3 hw3
  have hB := hB.trans (Below.mono (show Below w2.heap.size w2 w3 from hw3) hB.size)
  clear hex hw3 ma1 ma2 mb1 mb2 mc1 mc2
  have ma1 := Grew.cell hB ka1
  have ma2 := Grew.cell hB ka2
  have mb1 := Grew.cell hB kb1
  have mb2 := Grew.cell hB kb2
  have mc1 := Grew.cell hB kc1
  have mc2 := Grew.cell hB kc2
  go_upto_region 5 with (fail)
  rcases HN.out with ⟨q1, q2⟩ | q1
  · have hex := Grew.all w3
    refine wp_region_grew (by kernel_rfl) (by kernel_rfl) ?_
    repeat (first | go_big_quiet_skip | (go_big_quiet_want; first | (refine quiet_load_mid 59 _ rfl _ _ rfl [.int .i64 a1, .int .i64 a2] _ (fun W hW => range2 (Grew.cell hW ma1) (Grew.cell hW ma2)) Try.underlying59 rfl (by kernel_rfl) ?_; simp only [Act.put, List.setIfInBounds_toArray, List.set_cons_succ, List.set_cons_zero]; go_big_quiet_on) | (refine quiet_load_mid 59 _ rfl _ _ rfl [.int .i64 b1, .int .i64 b2] _ (fun W hW => range2 (Grew.cell hW mb1) (Grew.cell hW mb2)) Try.underlying59 rfl (by kernel_rfl) ?_; simp only [Act.put, List.setIfInBounds_toArray, List.set_cons_succ, List.set_cons_zero]; go_big_quiet_on) | (refine quiet_load_mid 59 _ rfl _ _ rfl [.int .i64 c1, .int .i64 c2] _ (fun W hW => range2 (Grew.cell hW mc1) (Grew.cell hW mc2)) Try.underlying59 rfl (by kernel_rfl) ?_; simp only [Act.put, List.setIfInBounds_toArray, List.set_cons_succ, List.set_cons_zero]; go_big_quiet_on) | (go_big_quiet_op; first | go_big_quiet_on | (apply Exists.intro; refine ⟨fun W hW => ?_, ?_⟩; (first | exact rfl | (go_at_call 41; with_reducible exact Calls.grew hW (H3.out _)) | (go_at_call 41; with_reducible exact Calls.grew hW (H4.out _)) | (go_at_call 42; with_reducible exact Calls.grew hW (H5.out _)) | (go_at_call 43; with_reducible exact Calls.grew hW (H6.out _)) | (go_at_call 43; with_reducible exact Calls.grew hW (H7.out _)) | (go_at_call 35; with_reducible exact Calls.grew hW (HW.out _))); go_big_quiet_on))))
    refine wpQuiet_nil ?_
    intro w4 hw4
    have hB := hB.trans (Below.mono (show Below w3.heap.size w3 w4 from hw4) hB.size)
    clear hex hw4
    go_wp2
    go_ret
    exact ⟨rfl, HB.out.trans (hB.mono HB.out.size)⟩
  · have hex := Grew.all w3
    refine wp_region_grew (by kernel_rfl) (by kernel_rfl) ?_
    repeat (first | go_big_quiet_skip | (go_big_quiet_want; first | (refine quiet_load_mid 59 _ rfl _ _ rfl [.int .i64 a1, .int .i64 a2] _ (fun W hW => range2 (Grew.cell hW ma1) (Grew.cell hW ma2)) Try.underlying59 rfl (by kernel_rfl) ?_; simp only [Act.put, List.setIfInBounds_toArray, List.set_cons_succ, List.set_cons_zero]; go_big_quiet_on) | (refine quiet_load_mid 59 _ rfl _ _ rfl [.int .i64 b1, .int .i64 b2] _ (fun W hW => range2 (Grew.cell hW mb1) (Grew.cell hW mb2)) Try.underlying59 rfl (by kernel_rfl) ?_; simp only [Act.put, List.setIfInBounds_toArray, List.set_cons_succ, List.set_cons_zero]; go_big_quiet_on) | (refine quiet_load_mid 59 _ rfl _ _ rfl [.int .i64 c1, .int .i64 c2] _ (fun W hW => range2 (Grew.cell hW mc1) (Grew.cell hW mc2)) Try.underlying59 rfl (by kernel_rfl) ?_; simp only [Act.put, List.setIfInBounds_toArray, List.set_cons_succ, List.set_cons_zero]; go_big_quiet_on) | (go_big_quiet_op; first | go_big_quiet_on | (apply Exists.intro; refine ⟨fun W hW => ?_, ?_⟩; (first | exact rfl | (go_at_call 41; with_reducible exact Calls.grew hW (H3.out _)) | (go_at_call 41; with_reducible exact Calls.grew hW (H4.out _)) | (go_at_call 42; with_reducible exact Calls.grew hW (H5.out _)) | (go_at_call 43; with_reducible exact Calls.grew hW (H6.out _)) | (go_at_call 43; with_reducible exact Calls.grew hW (H7.out _)) | (go_at_call 35; with_reducible exact Calls.grew hW (HW.out _))); go_big_quiet_on))))
    refine wpQuiet_nil ?_
    intro w4 hw4
    have hB := hB.trans (Below.mono (show Below w3.heap.size w3 w4 from hw4) hB.size)
    clear hex hw4
    go_wp2
    go_ret
    exact ⟨rfl, HB.out.trans (hB.mono HB.out.size)⟩
set_option maxRecDepth 100000 in
set_option maxHeartbeats 2000000 in
theorem orders_no (a1 a2 b1 b2 c1 c2 : Int) (y : Bool) (w : World)
    (hne : ((a1 == b1) = true ∧ (a2 == b2) = false) ∨ (a1 == b1) = false)
    (h1 : ∀ X, Calls Try.prog 41 #[.agg #[.int .i64 a1, .int .i64 a2], .agg #[.int .i64 b1, .int .i64 b2]] X fun e w' => e = .returned (.bool false) ∧ Below X.heap.size X w')
    (h2 : ∀ X, Calls Try.prog 41 #[.agg #[.int .i64 b1, .int .i64 b2], .agg #[.int .i64 c1, .int .i64 c2]] X fun e w' => e = .returned (.bool y) ∧ Below X.heap.size X w')
    (h3 : ∀ X, Calls Try.prog 41 #[.agg #[.int .i64 b1, .int .i64 b2], .agg #[.int .i64 a1, .int .i64 a2]] X fun e w' => e = .returned (.bool true) ∧ Below X.heap.size X w')
    (h5 : ∀ X, Calls Try.prog 42 #[.agg #[.int .i64 a1, .int .i64 a2], .agg #[.int .i64 b1, .int .i64 b2]] X fun e w' => e = .returned (.bool false) ∧ Below X.heap.size X w')
    (h6 : ∀ X, Calls Try.prog 43 #[.agg #[.int .i64 a1, .int .i64 a2]] X fun e w' => e = .returned (.agg #[.int .i64 a1, .int .i64 a2]) ∧ Below X.heap.size X w')
    (h7 : ∀ X, Calls Try.prog 43 #[.agg #[.int .i64 b1, .int .i64 b2]] X fun e w' => e = .returned (.agg #[.int .i64 b1, .int .i64 b2]) ∧ Below X.heap.size X w') :
    Calls Try.prog 12 #[.agg #[.int .i64 a1, .int .i64 a2], .agg #[.int .i64 b1, .int .i64 b2], .agg #[.int .i64 c1, .int .i64 c2]] w fun e w' => e = .returned (.bool true) ∧ Below w.heap.size w w' := by
  have H1 := Lib.hid h1
  have H2 := Lib.hid h2
  have H3 := Lib.hid h3
  have H5 := Lib.hid h5
  have H6 := Lib.hid h6
  have H7 := Lib.hid h7
  have HW := Lib.hid (fun X => wake_any X)
  have HN := Lib.hid hne
  clear hne
  clear h1 h2 h3 h5 h6 h7
  go_enter Try.func12, Try.ntmps12
  go_wp2_with (fail)
  have HB := Lib.hid (((alloc_below w (.cells #[.int .i64 a1, .int .i64 a2] 59)).alloc (by simp) (.cells #[.int .i64 b1, .int .i64 b2] 59)).alloc (by simp; omega) (.cells #[.int .i64 c1, .int .i64 c2] 59))
  have ka1 : (((w.alloc (.cells #[.int .i64 a1, .int .i64 a2] 59)).alloc (.cells #[.int .i64 b1, .int .i64 b2] 59)).alloc (.cells #[.int .i64 c1, .int .i64 c2] 59)).cell? ⟨w.heap.size, 0, none⟩ = some (.int .i64 a1) := by simp [go_sem]
  have ka2 : (((w.alloc (.cells #[.int .i64 a1, .int .i64 a2] 59)).alloc (.cells #[.int .i64 b1, .int .i64 b2] 59)).alloc (.cells #[.int .i64 c1, .int .i64 c2] 59)).cell? ⟨w.heap.size, 1, none⟩ = some (.int .i64 a2) := by simp [go_sem]
  have kb1 : (((w.alloc (.cells #[.int .i64 a1, .int .i64 a2] 59)).alloc (.cells #[.int .i64 b1, .int .i64 b2] 59)).alloc (.cells #[.int .i64 c1, .int .i64 c2] 59)).cell? ⟨w.heap.size + 1, 0, none⟩ = some (.int .i64 b1) := by simp [go_sem]
  have kb2 : (((w.alloc (.cells #[.int .i64 a1, .int .i64 a2] 59)).alloc (.cells #[.int .i64 b1, .int .i64 b2] 59)).alloc (.cells #[.int .i64 c1, .int .i64 c2] 59)).cell? ⟨w.heap.size + 1, 1, none⟩ = some (.int .i64 b2) := by simp [go_sem]
  have kc1 : (((w.alloc (.cells #[.int .i64 a1, .int .i64 a2] 59)).alloc (.cells #[.int .i64 b1, .int .i64 b2] 59)).alloc (.cells #[.int .i64 c1, .int .i64 c2] 59)).cell? ⟨w.heap.size + 1 + 1, 0, none⟩ = some (.int .i64 c1) := by simp [go_sem]
  have kc2 : (((w.alloc (.cells #[.int .i64 a1, .int .i64 a2] 59)).alloc (.cells #[.int .i64 b1, .int .i64 b2] 59)).alloc (.cells #[.int .i64 c1, .int .i64 c2] 59)).cell? ⟨w.heap.size + 1 + 1, 1, none⟩ = some (.int .i64 c2) := by simp [go_sem]
  generalize hW : (((w.alloc (.cells #[.int .i64 a1, .int .i64 a2] 59)).alloc (.cells #[.int .i64 b1, .int .i64 b2] 59)).alloc (.cells #[.int .i64 c1, .int .i64 c2] 59)) = W at *
  clear hW
  refine (H1.out _).mono ?_
  rintro e w1 ⟨rfl, hB⟩
  have ma1 := Grew.cell hB ka1
  have ma2 := Grew.cell hB ka2
  have mb1 := Grew.cell hB kb1
  have mb2 := Grew.cell hB kb2
  have mc1 := Grew.cell hB kc1
  have mc2 := Grew.cell hB kc2
  go_wp2_with (fail)
  refine (H2.out _).mono ?_
  rintro e w2 ⟨rfl, hb2⟩
  have hB := hB.trans (hb2.mono hB.size)
  clear hb2 ma1 ma2 mb1 mb2 mc1 mc2
  have ma1 := Grew.cell hB ka1
  have ma2 := Grew.cell hB ka2
  have mb1 := Grew.cell hB kb1
  have mb2 := Grew.cell hB kb2
  have mc1 := Grew.cell hB kc1
  have mc2 := Grew.cell hB kc2
  go_upto_region 3 with (fail)
  have hex := Grew.all w2
  refine wp_region_grew (by kernel_rfl) (by kernel_rfl) ?_
  repeat (first | go_big_quiet_skip | (go_big_quiet_want; first | (refine quiet_load_mid 59 _ rfl _ _ rfl [.int .i64 a1, .int .i64 a2] _ (fun W hW => range2 (Grew.cell hW ma1) (Grew.cell hW ma2)) Try.underlying59 rfl (by kernel_rfl) ?_; simp only [Act.put, List.setIfInBounds_toArray, List.set_cons_succ, List.set_cons_zero]; go_big_quiet_on) | (refine quiet_load_mid 59 _ rfl _ _ rfl [.int .i64 b1, .int .i64 b2] _ (fun W hW => range2 (Grew.cell hW mb1) (Grew.cell hW mb2)) Try.underlying59 rfl (by kernel_rfl) ?_; simp only [Act.put, List.setIfInBounds_toArray, List.set_cons_succ, List.set_cons_zero]; go_big_quiet_on) | (refine quiet_load_mid 59 _ rfl _ _ rfl [.int .i64 c1, .int .i64 c2] _ (fun W hW => range2 (Grew.cell hW mc1) (Grew.cell hW mc2)) Try.underlying59 rfl (by kernel_rfl) ?_; simp only [Act.put, List.setIfInBounds_toArray, List.set_cons_succ, List.set_cons_zero]; go_big_quiet_on) | (go_big_quiet_op; first | go_big_quiet_on | (apply Exists.intro; refine ⟨fun W hW => ?_, ?_⟩; (first | exact rfl | (go_at_call 41; with_reducible exact Calls.grew hW (H3.out _)) | (go_at_call 42; with_reducible exact Calls.grew hW (H5.out _)) | (go_at_call 43; with_reducible exact Calls.grew hW (H6.out _)) | (go_at_call 43; with_reducible exact Calls.grew hW (H7.out _)) | (go_at_call 35; with_reducible exact Calls.grew hW (HW.out _))); go_big_quiet_on))))
  refine wpQuiet_nil ?_
  intro w3 hw3
  have hB := hB.trans (Below.mono (show Below w2.heap.size w2 w3 from hw3) hB.size)
  clear hex hw3 ma1 ma2 mb1 mb2 mc1 mc2
  have ma1 := Grew.cell hB ka1
  have ma2 := Grew.cell hB ka2
  have mb1 := Grew.cell hB kb1
  have mb2 := Grew.cell hB kb2
  have mc1 := Grew.cell hB kc1
  have mc2 := Grew.cell hB kc2
  go_upto_region 5 with (fail)
  rcases HN.out with ⟨q1, q2⟩ | q1
  · have hex := Grew.all w3
    refine wp_region_grew (by kernel_rfl) (by kernel_rfl) ?_
    repeat (first | go_big_quiet_skip | (go_big_quiet_want; first | (refine quiet_load_mid 59 _ rfl _ _ rfl [.int .i64 a1, .int .i64 a2] _ (fun W hW => range2 (Grew.cell hW ma1) (Grew.cell hW ma2)) Try.underlying59 rfl (by kernel_rfl) ?_; simp only [Act.put, List.setIfInBounds_toArray, List.set_cons_succ, List.set_cons_zero]; go_big_quiet_on) | (refine quiet_load_mid 59 _ rfl _ _ rfl [.int .i64 b1, .int .i64 b2] _ (fun W hW => range2 (Grew.cell hW mb1) (Grew.cell hW mb2)) Try.underlying59 rfl (by kernel_rfl) ?_; simp only [Act.put, List.setIfInBounds_toArray, List.set_cons_succ, List.set_cons_zero]; go_big_quiet_on) | (refine quiet_load_mid 59 _ rfl _ _ rfl [.int .i64 c1, .int .i64 c2] _ (fun W hW => range2 (Grew.cell hW mc1) (Grew.cell hW mc2)) Try.underlying59 rfl (by kernel_rfl) ?_; simp only [Act.put, List.setIfInBounds_toArray, List.set_cons_succ, List.set_cons_zero]; go_big_quiet_on) | (go_big_quiet_op; first | go_big_quiet_on | (apply Exists.intro; refine ⟨fun W hW => ?_, ?_⟩; (first | exact rfl | (go_at_call 41; with_reducible exact Calls.grew hW (H3.out _)) | (go_at_call 42; with_reducible exact Calls.grew hW (H5.out _)) | (go_at_call 43; with_reducible exact Calls.grew hW (H6.out _)) | (go_at_call 43; with_reducible exact Calls.grew hW (H7.out _)) | (go_at_call 35; with_reducible exact Calls.grew hW (HW.out _))); go_big_quiet_on))))
    refine wpQuiet_nil ?_
    intro w4 hw4
    have hB := hB.trans (Below.mono (show Below w3.heap.size w3 w4 from hw4) hB.size)
    clear hex hw4
    go_wp2
    go_ret
    exact ⟨rfl, HB.out.trans (hB.mono HB.out.size)⟩
  · have hex := Grew.all w3
    refine wp_region_grew (by kernel_rfl) (by kernel_rfl) ?_
    repeat (first | go_big_quiet_skip | (go_big_quiet_want; first | (refine quiet_load_mid 59 _ rfl _ _ rfl [.int .i64 a1, .int .i64 a2] _ (fun W hW => range2 (Grew.cell hW ma1) (Grew.cell hW ma2)) Try.underlying59 rfl (by kernel_rfl) ?_; simp only [Act.put, List.setIfInBounds_toArray, List.set_cons_succ, List.set_cons_zero]; go_big_quiet_on) | (refine quiet_load_mid 59 _ rfl _ _ rfl [.int .i64 b1, .int .i64 b2] _ (fun W hW => range2 (Grew.cell hW mb1) (Grew.cell hW mb2)) Try.underlying59 rfl (by kernel_rfl) ?_; simp only [Act.put, List.setIfInBounds_toArray, List.set_cons_succ, List.set_cons_zero]; go_big_quiet_on) | (refine quiet_load_mid 59 _ rfl _ _ rfl [.int .i64 c1, .int .i64 c2] _ (fun W hW => range2 (Grew.cell hW mc1) (Grew.cell hW mc2)) Try.underlying59 rfl (by kernel_rfl) ?_; simp only [Act.put, List.setIfInBounds_toArray, List.set_cons_succ, List.set_cons_zero]; go_big_quiet_on) | (go_big_quiet_op; first | go_big_quiet_on | (apply Exists.intro; refine ⟨fun W hW => ?_, ?_⟩; (first | exact rfl | (go_at_call 41; with_reducible exact Calls.grew hW (H3.out _)) | (go_at_call 42; with_reducible exact Calls.grew hW (H5.out _)) | (go_at_call 43; with_reducible exact Calls.grew hW (H6.out _)) | (go_at_call 43; with_reducible exact Calls.grew hW (H7.out _)) | (go_at_call 35; with_reducible exact Calls.grew hW (HW.out _))); go_big_quiet_on))))
    refine wpQuiet_nil ?_
    intro w4 hw4
    have hB := hB.trans (Below.mono (show Below w3.heap.size w3 w4 from hw4) hB.size)
    clear hex hw4
    go_wp2
    go_ret
    exact ⟨rfl, HB.out.trans (hB.mono HB.out.size)⟩
set_option maxRecDepth 100000 in
set_option maxHeartbeats 2000000 in
theorem orders_same (a1 a2 b1 b2 c1 c2 : Int) (y : Bool) (w : World)
    (q1 : (a1 == b1) = true) (q2 : (a2 == b2) = true)
    (h1 : ∀ X, Calls Try.prog 41 #[.agg #[.int .i64 a1, .int .i64 a2], .agg #[.int .i64 b1, .int .i64 b2]] X fun e w' => e = .returned (.bool false) ∧ Below X.heap.size X w')
    (h2 : ∀ X, Calls Try.prog 41 #[.agg #[.int .i64 b1, .int .i64 b2], .agg #[.int .i64 c1, .int .i64 c2]] X fun e w' => e = .returned (.bool y) ∧ Below X.heap.size X w')
    (h3 : ∀ X, Calls Try.prog 41 #[.agg #[.int .i64 b1, .int .i64 b2], .agg #[.int .i64 a1, .int .i64 a2]] X fun e w' => e = .returned (.bool false) ∧ Below X.heap.size X w')
    (h5 : ∀ X, Calls Try.prog 42 #[.agg #[.int .i64 a1, .int .i64 a2], .agg #[.int .i64 b1, .int .i64 b2]] X fun e w' => e = .returned (.bool false) ∧ Below X.heap.size X w')
    (h6 : ∀ X, Calls Try.prog 43 #[.agg #[.int .i64 a1, .int .i64 a2]] X fun e w' => e = .returned (.agg #[.int .i64 a1, .int .i64 a2]) ∧ Below X.heap.size X w')
    (h7 : ∀ X, Calls Try.prog 43 #[.agg #[.int .i64 b1, .int .i64 b2]] X fun e w' => e = .returned (.agg #[.int .i64 b1, .int .i64 b2]) ∧ Below X.heap.size X w') :
    Calls Try.prog 12 #[.agg #[.int .i64 a1, .int .i64 a2], .agg #[.int .i64 b1, .int .i64 b2], .agg #[.int .i64 c1, .int .i64 c2]] w fun e w' => e = .returned (.bool true) ∧ Below w.heap.size w w' := by
  have H1 := Lib.hid h1
  have H2 := Lib.hid h2
  have H3 := Lib.hid h3
  have H5 := Lib.hid h5
  have H6 := Lib.hid h6
  have H7 := Lib.hid h7
  have HW := Lib.hid (fun X => wake_any X)
  have HQ := Lib.hid (And.intro q1 q2)
  clear q1 q2
  clear h1 h2 h3 h5 h6 h7
  go_enter Try.func12, Try.ntmps12
  go_wp2_with (fail)
  have HB := Lib.hid (((alloc_below w (.cells #[.int .i64 a1, .int .i64 a2] 59)).alloc (by simp) (.cells #[.int .i64 b1, .int .i64 b2] 59)).alloc (by simp; omega) (.cells #[.int .i64 c1, .int .i64 c2] 59))
  have ka1 : (((w.alloc (.cells #[.int .i64 a1, .int .i64 a2] 59)).alloc (.cells #[.int .i64 b1, .int .i64 b2] 59)).alloc (.cells #[.int .i64 c1, .int .i64 c2] 59)).cell? ⟨w.heap.size, 0, none⟩ = some (.int .i64 a1) := by simp [go_sem]
  have ka2 : (((w.alloc (.cells #[.int .i64 a1, .int .i64 a2] 59)).alloc (.cells #[.int .i64 b1, .int .i64 b2] 59)).alloc (.cells #[.int .i64 c1, .int .i64 c2] 59)).cell? ⟨w.heap.size, 1, none⟩ = some (.int .i64 a2) := by simp [go_sem]
  have kb1 : (((w.alloc (.cells #[.int .i64 a1, .int .i64 a2] 59)).alloc (.cells #[.int .i64 b1, .int .i64 b2] 59)).alloc (.cells #[.int .i64 c1, .int .i64 c2] 59)).cell? ⟨w.heap.size + 1, 0, none⟩ = some (.int .i64 b1) := by simp [go_sem]
  have kb2 : (((w.alloc (.cells #[.int .i64 a1, .int .i64 a2] 59)).alloc (.cells #[.int .i64 b1, .int .i64 b2] 59)).alloc (.cells #[.int .i64 c1, .int .i64 c2] 59)).cell? ⟨w.heap.size + 1, 1, none⟩ = some (.int .i64 b2) := by simp [go_sem]
  have kc1 : (((w.alloc (.cells #[.int .i64 a1, .int .i64 a2] 59)).alloc (.cells #[.int .i64 b1, .int .i64 b2] 59)).alloc (.cells #[.int .i64 c1, .int .i64 c2] 59)).cell? ⟨w.heap.size + 1 + 1, 0, none⟩ = some (.int .i64 c1) := by simp [go_sem]
  have kc2 : (((w.alloc (.cells #[.int .i64 a1, .int .i64 a2] 59)).alloc (.cells #[.int .i64 b1, .int .i64 b2] 59)).alloc (.cells #[.int .i64 c1, .int .i64 c2] 59)).cell? ⟨w.heap.size + 1 + 1, 1, none⟩ = some (.int .i64 c2) := by simp [go_sem]
  generalize hW : (((w.alloc (.cells #[.int .i64 a1, .int .i64 a2] 59)).alloc (.cells #[.int .i64 b1, .int .i64 b2] 59)).alloc (.cells #[.int .i64 c1, .int .i64 c2] 59)) = W at *
  clear hW
  refine (H1.out _).mono ?_
  rintro e w1 ⟨rfl, hB⟩
  have ma1 := Grew.cell hB ka1
  have ma2 := Grew.cell hB ka2
  have mb1 := Grew.cell hB kb1
  have mb2 := Grew.cell hB kb2
  have mc1 := Grew.cell hB kc1
  have mc2 := Grew.cell hB kc2
  go_wp2_with (fail)
  refine (H2.out _).mono ?_
  rintro e w2 ⟨rfl, hb2⟩
  have hB := hB.trans (hb2.mono hB.size)
  clear hb2 ma1 ma2 mb1 mb2 mc1 mc2
  have ma1 := Grew.cell hB ka1
  have ma2 := Grew.cell hB ka2
  have mb1 := Grew.cell hB kb1
  have mb2 := Grew.cell hB kb2
  have mc1 := Grew.cell hB kc1
  have mc2 := Grew.cell hB kc2
  go_upto_region 3 with (fail)
  have hex := Grew.all w2
  refine wp_region_grew (by kernel_rfl) (by kernel_rfl) ?_
  repeat (first | go_big_quiet_skip | (go_big_quiet_want; first | (refine quiet_load_mid 59 _ rfl _ _ rfl [.int .i64 a1, .int .i64 a2] _ (fun W hW => range2 (Grew.cell hW ma1) (Grew.cell hW ma2)) Try.underlying59 rfl (by kernel_rfl) ?_; simp only [Act.put, List.setIfInBounds_toArray, List.set_cons_succ, List.set_cons_zero]; go_big_quiet_on) | (refine quiet_load_mid 59 _ rfl _ _ rfl [.int .i64 b1, .int .i64 b2] _ (fun W hW => range2 (Grew.cell hW mb1) (Grew.cell hW mb2)) Try.underlying59 rfl (by kernel_rfl) ?_; simp only [Act.put, List.setIfInBounds_toArray, List.set_cons_succ, List.set_cons_zero]; go_big_quiet_on) | (refine quiet_load_mid 59 _ rfl _ _ rfl [.int .i64 c1, .int .i64 c2] _ (fun W hW => range2 (Grew.cell hW mc1) (Grew.cell hW mc2)) Try.underlying59 rfl (by kernel_rfl) ?_; simp only [Act.put, List.setIfInBounds_toArray, List.set_cons_succ, List.set_cons_zero]; go_big_quiet_on) | (go_big_quiet_op; first | go_big_quiet_on | (apply Exists.intro; refine ⟨fun W hW => ?_, ?_⟩; (first | exact rfl | (go_at_call 41; with_reducible exact Calls.grew hW (H3.out _)) | (go_at_call 42; with_reducible exact Calls.grew hW (H5.out _)) | (go_at_call 43; with_reducible exact Calls.grew hW (H6.out _)) | (go_at_call 43; with_reducible exact Calls.grew hW (H7.out _)) | (go_at_call 35; with_reducible exact Calls.grew hW (HW.out _))); go_big_quiet_on))))
  refine wpQuiet_nil ?_
  intro w3 hw3
  have hB := hB.trans (Below.mono (show Below w2.heap.size w2 w3 from hw3) hB.size)
  clear hex hw3 ma1 ma2 mb1 mb2 mc1 mc2
  have ma1 := Grew.cell hB ka1
  have ma2 := Grew.cell hB ka2
  have mb1 := Grew.cell hB kb1
  have mb2 := Grew.cell hB kb2
  have mc1 := Grew.cell hB kc1
  have mc2 := Grew.cell hB kc2
  go_upto_region 5 with (fail)
  obtain ⟨q1, q2⟩ := HQ.out
  have hex := Grew.all w3
  refine wp_region_grew (by kernel_rfl) (by kernel_rfl) ?_
  repeat (first | go_big_quiet_skip | (go_big_quiet_want; first | (refine quiet_load_mid 59 _ rfl _ _ rfl [.int .i64 a1, .int .i64 a2] _ (fun W hW => range2 (Grew.cell hW ma1) (Grew.cell hW ma2)) Try.underlying59 rfl (by kernel_rfl) ?_; simp only [Act.put, List.setIfInBounds_toArray, List.set_cons_succ, List.set_cons_zero]; go_big_quiet_on) | (refine quiet_load_mid 59 _ rfl _ _ rfl [.int .i64 b1, .int .i64 b2] _ (fun W hW => range2 (Grew.cell hW mb1) (Grew.cell hW mb2)) Try.underlying59 rfl (by kernel_rfl) ?_; simp only [Act.put, List.setIfInBounds_toArray, List.set_cons_succ, List.set_cons_zero]; go_big_quiet_on) | (refine quiet_load_mid 59 _ rfl _ _ rfl [.int .i64 c1, .int .i64 c2] _ (fun W hW => range2 (Grew.cell hW mc1) (Grew.cell hW mc2)) Try.underlying59 rfl (by kernel_rfl) ?_; simp only [Act.put, List.setIfInBounds_toArray, List.set_cons_succ, List.set_cons_zero]; go_big_quiet_on) | (go_big_quiet_op; first | go_big_quiet_on | (apply Exists.intro; refine ⟨fun W hW => ?_, ?_⟩; (first | exact rfl | (go_at_call 41; with_reducible exact Calls.grew hW (H3.out _)) | (go_at_call 42; with_reducible exact Calls.grew hW (H5.out _)) | (go_at_call 43; with_reducible exact Calls.grew hW (H6.out _)) | (go_at_call 43; with_reducible exact Calls.grew hW (H7.out _)) | (go_at_call 35; with_reducible exact Calls.grew hW (HW.out _))); go_big_quiet_on))))
  refine wpQuiet_nil ?_
  intro w4 hw4
  have hB := hB.trans (Below.mono (show Below w3.heap.size w3 w4 from hw4) hB.size)
  clear hex hw4
  go_wp2
  go_ret
  exact ⟨rfl, HB.out.trans (hB.mono HB.out.size)⟩
end Go.Proofs.Ytlbacddgjagcbaa
