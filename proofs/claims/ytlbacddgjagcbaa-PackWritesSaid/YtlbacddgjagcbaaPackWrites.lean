/- The walk of the statement PackWrites. Conditions: none. -/
import Derived.Test.YtlbacddgjagcbaaPackApart
namespace Go.Proofs.Ytlbacddgjagcbaa
open Go.RowKit

set_option maxRecDepth 100000 in
set_option maxHeartbeats 400000 in

set_option maxRecDepth 100000 in
set_option maxHeartbeats 400000 in
theorem packWrites_walk (W : World) (n : Int) (va : Value) (hn : (Lit.int .i64 n).wf = true) (ha : IsStrs W va) :
    Calls Try.prog 3 #[.int .i64 n, va] W fun e w' => e = .returned (.bool true) ∧ Below W.heap.size W w' := by
  obtain ⟨A, a, ca, rfl, hla, hca, hA, hsA⟩ := ha
  obtain ⟨hn1, hn2⟩ := bounds_i64 hn
  go_enter Try.func3, Try.ntmps3
  go_wp2_with (fail)
  by_cases fA : fewB A = true
  · refine (few_at hA hla hca hsA fA).mono ?_
    rintro e w1 ⟨rfl, rfl⟩
    by_cases h0 : 0 < A.length
    · as_aux_lemma =>
      obtain ⟨bb, off, rfl, hcell⟩ := strs_get hA 0 h0
      simp only [str, Nat.add_zero] at hcell
      have hs0 := fewB_each fA _ (List.getElem_mem h0)
      have ht : ∀ W, Calls Try.prog 18 #[.string (bs A[0])] W fun e w' => e = .returned (.string (bs (textL A[0]))) ∧ Below W.heap.size W w' := fun W => text_any _ (by omega) W
      have hr : ∀ W, Calls Try.prog 19 #[.string (bs A[0])] W fun e w' => e = .returned (.string (bs (textL A[0]))) ∧ Below W.heap.size W w' := fun W => reftext_any _ (by omega) W
      have Ht := Lib.hid ht
      have Hr := Lib.hid hr
      clear ht hr
      go_wp2_with (fail)
      have hex := Grew.all w1
      refine wp_region_grew (by kernel_rfl) (by kernel_rfl) ?_
      repeat (first | go_big_quiet_skip | (go_big_quiet_want; first | (refine quiet_load_cell 9 (.tmp 14) rfl _ rfl _ _ Try.underlying9 rfl (fun W hW => Grew.cell hW hcell) ?_; simp only [Act.put, List.setIfInBounds_toArray, List.set_cons_succ, List.set_cons_zero]; go_big_quiet_on) | (refine quiet_load_cell 9 (.tmp 18) rfl _ rfl _ _ Try.underlying9 rfl (fun W hW => Grew.cell hW hcell) ?_; simp only [Act.put, List.setIfInBounds_toArray, List.set_cons_succ, List.set_cons_zero]; go_big_quiet_on) | (go_big_quiet_op; first | go_big_quiet_on | (apply Exists.intro; refine ⟨fun W hW => ?_, ?_⟩; (first | exact rfl | (go_at_call 18; with_reducible exact Calls.grew hW (Ht.out _)) | (go_at_call 19; with_reducible exact Calls.grew hW (Hr.out _))); go_big_quiet_on))))
      refine wpQuiet_nil ?_
      intro w2 hw2
      clear hex
      have hA2 := hA.grew hw2
      have H2 : Below w1.heap.size w1 w2 := hw2
      clear hw2 hA
      go_wp2_with (fail)
      refine (num_any n hn1 hn2 _).mono ?_
      rintro e w3 ⟨rfl, hb3⟩
      go_wp2_with (fail)
      refine (refnum_any n hn1 hn2 _).mono ?_
      rintro e w4 ⟨rfl, hb4⟩
      have s3 := Nat.le_trans H2.size hb3.size
      have H4 : Below w1.heap.size w1 w4 := (H2.trans (hb3.mono H2.size)).trans (hb4.mono s3)
      have hA4 := (hA2.grew hb3).grew hb4
      clear hA2 hb3 hb4 s3 H2
      go_wp2_with (fail)
      refine (list_at hA4 fA).mono ?_
      rintro e w5 ⟨rfl, hb5⟩
      have hA5 := hA4.grew hb5
      clear hA4
      go_wp2_with (fail)
      refine (reflist_at hA5 fA).mono ?_
      rintro e w6 ⟨rfl, hb6⟩
      have s5 := Nat.le_trans H4.size hb5.size
      have s6 := Nat.le_trans s5 hb6.size
      have H6 : Below w1.heap.size w1 w6 := (H4.trans (hb5.mono H4.size)).trans (hb6.mono s5)
      clear hA5 hb5 hb6 H4
      go_wp2_with (fail)
      refine (awake_any w6).mono ?_
      rintro e w7 ⟨rfl, hb7⟩
      go_wp2
      go_ret
      exact ⟨rfl, H6.trans (hb7.mono s6)⟩
    · as_aux_lemma =>
      go_wp2_with (fail)
      have hex := Grew.all w1
      refine wp_region_grew (by kernel_rfl) (by kernel_rfl) ?_
      repeat (first | go_big_quiet_skip | (go_big_quiet_want; go_big_quiet_op; first | go_big_quiet_on | (apply Exists.intro; refine ⟨fun W hW => ?_, ?_⟩; (first | fail); go_big_quiet_on)))
      refine wpQuiet_nil ?_
      intro w2 hw2
      clear hex
      have hA2 := hA.grew hw2
      have H2 : Below w1.heap.size w1 w2 := hw2
      clear hw2 hA
      go_wp2_with (fail)
      refine (num_any n hn1 hn2 _).mono ?_
      rintro e w3 ⟨rfl, hb3⟩
      go_wp2_with (fail)
      refine (refnum_any n hn1 hn2 _).mono ?_
      rintro e w4 ⟨rfl, hb4⟩
      have s3 := Nat.le_trans H2.size hb3.size
      have H4 : Below w1.heap.size w1 w4 := (H2.trans (hb3.mono H2.size)).trans (hb4.mono s3)
      have hA4 := (hA2.grew hb3).grew hb4
      clear hA2 hb3 hb4 s3 H2
      go_wp2_with (fail)
      refine (list_at hA4 fA).mono ?_
      rintro e w5 ⟨rfl, hb5⟩
      have hA5 := hA4.grew hb5
      clear hA4
      go_wp2_with (fail)
      refine (reflist_at hA5 fA).mono ?_
      rintro e w6 ⟨rfl, hb6⟩
      have s5 := Nat.le_trans H4.size hb5.size
      have s6 := Nat.le_trans s5 hb6.size
      have H6 : Below w1.heap.size w1 w6 := (H4.trans (hb5.mono H4.size)).trans (hb6.mono s5)
      clear hA5 hb5 hb6 H4
      go_wp2_with (fail)
      refine (awake_any w6).mono ?_
      rintro e w7 ⟨rfl, hb7⟩
      go_wp2
      go_ret
      exact ⟨rfl, H6.trans (hb7.mono s6)⟩
  · as_aux_lemma =>
    rw [Bool.not_eq_true] at fA
    refine (few_at hA hla hca hsA fA).mono ?_
    rintro e w1 ⟨rfl, rfl⟩
    go_wp2_with (fail)
    refine (awake_any w1).mono ?_
    rintro e w5 ⟨rfl, hb6⟩
    go_wp2
    go_ret
    exact ⟨rfl, hb6⟩
end Go.Proofs.Ytlbacddgjagcbaa
