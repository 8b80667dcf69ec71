/- The walks of the statements PackApart, PackWrites. Conditions: none. -/
import Derived.Test.YtlbacddgjagcbaaPackL
namespace Go.Proofs.Ytlbacddgjagcbaa
open Go.RowKit

theorem cells9 : Try.prog.cellsOf 9 = 1 := by kernel_rfl
theorem slice_len {L : List (List UInt8)} {cap : Nat} (h1 : L.length ≤ cap) (h2 : cap ≤ maxLen) : L.length ≤ 9223372036854775807 := Nat.le_trans h1 h2
/-- What a walk is told of a list of texts that came in, few or not. -/
theorem few_at {L : List (List UInt8)} {a : Option Addr} {cap : Nat} {w : World} (hL : StrsAt w (.slice a L.length cap) L) (h1 : L.length ≤ cap) (h2 : cap ≤ maxLen) (hs : ∀ s ∈ L, s.length ≤ maxLen) {b : Bool} (hb : fewB L = b) :
    Calls Try.prog 16 #[.slice a L.length cap] w fun e w' => e = .returned (.bool b) ∧ w' = w := by
  have h := few_any L a cap w hL (slice_len h1 h2) hs
  rwa [hb] at h
theorem list_at {L : List (List UInt8)} {a : Option Addr} {cap : Nat} {w : World} (hL : StrsAt w (.slice a L.length cap) L) (hf : fewB L = true) :
    Calls Try.prog 22 #[.slice a L.length cap] w fun e w' => e = .returned (.string (bs (listL L))) ∧ Below w.heap.size w w' := by
  have h1 := fewB_len hf
  have h3 := fewB_listL hf
  exact list_any L a cap w hL (by omega) (fun s hs => by have := fewB_each hf s hs; omega) (by omega)
theorem reflist_at {L : List (List UInt8)} {a : Option Addr} {cap : Nat} {w : World} (hL : StrsAt w (.slice a L.length cap) L) (hf : fewB L = true) :
    Calls Try.prog 23 #[.slice a L.length cap] w fun e w' => e = .returned (.string (bs (listL L))) ∧ Below w.heap.size w w' := by
  have h1 := fewB_len hf
  have h3 := fewB_listL hf
  exact reflist_any L a cap w hL (by omega) (fun s hs => by have := fewB_each hf s hs; omega) (by omega)

set_option maxRecDepth 100000 in
set_option maxHeartbeats 400000 in
theorem packApart_walk (W : World) (va vb : Value) (ha : IsStrs W va) (hb : IsStrs W vb) :
    Calls Try.prog 4 #[va, vb] W fun e w' => e = .returned (.bool true) ∧ Below W.heap.size W w' := by
  obtain ⟨A, a, ca, rfl, hla, hca, hA, hsA⟩ := ha
  obtain ⟨B, b, cb, rfl, hlb, hcb, hB, hsB⟩ := hb
  go_enter Try.func4, Try.ntmps4
  go_wp2_with (fail)
  by_cases fA : fewB A = true
  · refine (few_at hA hla hca hsA fA).mono ?_
    rintro e w1 ⟨rfl, rfl⟩
    go_wp2_with (fail)
    by_cases fB : fewB B = true
    · as_aux_lemma =>
      refine (few_at hB hlb hcb hsB fB).mono ?_
      rintro e w1 ⟨rfl, rfl⟩
      go_wp2_with (fail)
      refine (same_any A B a b ca cb w1 hA hB (slice_len hla hca) (slice_len hlb hcb)).mono ?_
      rintro e w2 ⟨rfl, hb2⟩
      have hA2 := hA.grew hb2
      have hB2 := hB.grew hb2
      clear hA hB
      go_wp2_with (fail)
      refine (list_at hA2 fA).mono ?_
      rintro e w3 ⟨rfl, hb3⟩
      go_wp2_with (fail)
      refine (list_at (hB2.grew hb3) fB).mono ?_
      rintro e w4 ⟨rfl, hb4⟩
      have hq : sameB A B = ((bs (listL A)).toList == (bs (listL B)).toList) := by
        unfold sameB
        rw [bs_toList, bs_toList, Bool.eq_iff_iff]
        simp only [decide_eq_true_eq, beq_iff_eq]
        exact ⟨fun h => by rw [h], fun h => listL_inj A B fA fB h⟩
      have s2 := Nat.le_trans hb2.size hb3.size
      have s3 := Nat.le_trans s2 hb4.size
      have hb5 : Below w1.heap.size w1 w4 := (hb2.trans (hb3.mono hb2.size)).trans (hb4.mono s2)
      clear hA2 hB2 hb2 hb3 hb4 fA fB
      rw [hq]
      generalize bs (listL A) = x at *
      generalize bs (listL B) = y at *
      clear hq
      by_cases hxy : (x.toList == y.toList) = true
      · go_wp2_with (fail)
        refine (awake_any w4).mono ?_
        rintro e w5 ⟨rfl, hb6⟩
        go_wp2
        go_ret
        exact ⟨rfl, hb5.trans (hb6.mono s3)⟩
      · rw [Bool.not_eq_true] at hxy
        go_wp2_with (fail)
        refine (awake_any w4).mono ?_
        rintro e w5 ⟨rfl, hb6⟩
        go_wp2
        go_ret
        exact ⟨rfl, hb5.trans (hb6.mono s3)⟩
    · as_aux_lemma =>
      rw [Bool.not_eq_true] at fB
      refine (few_at hB hlb hcb hsB fB).mono ?_
      rintro e w1 ⟨rfl, rfl⟩
      go_wp2_with (fail)
      refine (awake_any w1).mono ?_
      rintro e w5 ⟨rfl, hb6⟩
      go_wp2
      go_ret
      exact ⟨rfl, hb6⟩
  · as_aux_lemma =>
    rw [Bool.not_eq_true] at fA
    refine (few_at hA hla hca hsA fA).mono ?_
    rintro e w1 ⟨rfl, rfl⟩
    go_wp2_with (fail)
    refine (awake_any w1).mono ?_
    rintro e w5 ⟨rfl, hb6⟩
    go_wp2
    go_ret
    exact ⟨rfl, hb6⟩
end Go.Proofs.Ytlbacddgjagcbaa
