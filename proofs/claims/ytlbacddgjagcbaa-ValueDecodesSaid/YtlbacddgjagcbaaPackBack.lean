/- The walk of the statement PackBack. Conditions: none. -/
import Derived.Test.YtlbacddgjagcbaaPackNums
import Derived.Test.YtlbacddgjagcbaaPackU
namespace Go.Proofs.Ytlbacddgjagcbaa
open Go.RowKit

theorem numRead_at (b : Nat) (r : Rd) (w : World) (h : RdAt 91 b r w) (hl : r.l.length ≤ 9223372036854775807) {n : Int} {r2 : Rd} (hn : numR r = (n, r2)) :
    Calls Try.prog 26 #[.pointer (some ⟨b, 0, none⟩)] w fun e w' => e = .returned (.int .i64 n) ∧ RdAt 91 b r2 w' ∧ w.grownBy w' (some b) := by
  have h1 := numRead_any b r w h hl
  rw [hn] at h1; exact h1
theorem textRead_at (b : Nat) (r : Rd) (w : World) (h : RdAt 91 b r w) (hl : r.l.length ≤ 9223372036854775807) {s : List UInt8} {r2 : Rd} (hn : textR r = (s, r2)) :
    Calls Try.prog 28 #[.pointer (some ⟨b, 0, none⟩)] w fun e w' => e = .returned (.string (bs s)) ∧ RdAt 91 b r2 w' ∧ w.grownBy w' (some b) := by
  have h1 := textRead_any b r w h hl
  rw [hn] at h1; exact h1
theorem listRead_at (b : Nat) (r : Rd) (w : World) (h : RdAt 91 b r w) (hl : r.l.length ≤ 9223372036854775807) {L : List (List UInt8)} {r2 : Rd} (hn : listR r = (L, r2)) :
    Calls Try.prog 29 #[.pointer (some ⟨b, 0, none⟩)] w fun e w' => ∃ a cap, e = .returned (.slice a L.length cap) ∧ StrsAt w' (.slice a L.length cap) L ∧ L.length ≤ 10000 ∧ RdAt 91 b r2 w' ∧ w.grownBy w' (some b) ∧ ∀ p, a = some p → w.heap.size ≤ p.block := by
  have h1 := listRead_any b r w h hl
  unfold ListSaid at h1
  rw [hn] at h1; exact h1
theorem end_at (b : Nat) (r : Rd) (w : World) (h : RdAt 91 b r w) {k : Nat} (hn : endR r = k) :
    Calls Try.prog 27 #[.pointer (some ⟨b, 0, none⟩)] w fun e w' => e = .returned (.int .i64 (k : Int)) ∧ w' = w := by
  have h1 := end_any b r w h
  rw [hn] at h1; exact h1
theorem same_refl (L : List (List UInt8)) : sameB L L = true := by unfold sameB; simp

set_option maxRecDepth 100000 in
set_option maxHeartbeats 1600000 in
theorem packBack_walk (w : World) (n : Int) (va : Value) (rest : ByteArray) (hn : (Lit.int .i64 n).wf = true) (ha : IsStrs w va) (hr : rest.size ≤ maxLen) :
    Calls Try.prog 8 #[.int .i64 n, va, .string rest] w fun e w' => e = .returned (.bool true) ∧ Below w.heap.size w w' := by
  obtain ⟨hn1, hn2⟩ := bounds_i64 hn
  obtain ⟨A, a, ca, rfl, hla, hca, hA, hsA⟩ := ha
  obtain ⟨s, rfl⟩ : ∃ s, rest = bs s := ⟨_, (bs_of rest).symm⟩
  have hz := bs_size s
  have hmx : s.length ≤ 9223372036854775807 := by rw [← hz]; exact hr
  go_enter Try.func8, Try.ntmps8
  go_wp2_with (fail)
  by_cases fA : fewB A = true
  · refine (few_at hA hla hca hsA fA).mono ?_
    rintro e w1 ⟨rfl, rfl⟩
    by_cases hs : s.length ≤ 1000
    · have hq1 := numSize n hn1 hn2
      have hl1 := numL_len n hn1 hn2
      have hl2 := fewB_listL fA
      have hl3 := textL_len s hmx
      have hq2 : (bs (listL A)).size ≤ 200000 := by rw [bs_size]; exact hl2
      have hq3 : (bs (textL s)).size ≤ 1010 := by rw [bs_size]; omega
      have HC : Hid (bs (numL n) ++ bs (listL A) ++ bs (textL s) = bs (numL n ++ (listL A ++ textL s))) := by
        show _ = _
        rw [bs_append, bs_append, List.append_assoc]
      have R1 := Lib.hid (numR_back n (listL A ++ textL s) hn1 hn2)
      have R2 := Lib.hid (listR_back A (textL s) (by have := fewB_len fA; omega) (fun x hx => by have := fewB_each fA x hx; omega))
      have R3 := Lib.hid (textR_back s [] hmx)
      have E1 : Hid (endR ⟨textL s, 0⟩ = 12) := endR_ok _ rfl (by unfold textL; intro hh; exact numL_ne _ (List.append_eq_nil_iff.1 hh).1)
      go_wp2_with (fail)
      refine (num_any n hn1 hn2 _).mono ?_
      rintro e w2 ⟨rfl, hb2⟩
      have hA2 := hA.grew hb2
      go_wp2_with (fail)
      refine (list_at hA2 fA).mono ?_
      rintro e w3 ⟨rfl, hb3⟩
      have B3 := hb2.trans (hb3.mono hb2.size)
      clear hA2 hb2 hb3
      go_wp2_with (fail)
      refine (text_any s (by omega) _).mono ?_
      rintro e w4 ⟨rfl, hb4⟩
      have B4 := B3.trans (hb4.mono B3.size)
      clear B3 hb4
      go_wp2_with (fail)
      rw [HC.out]
      refine (read_any _ _).mono ?_
      rintro e w5 ⟨rfl, hR5, hb5⟩
      have B5 := B4.trans (hb5.mono B4.size)
      have hs4 := B4.size
      generalize bs (numL n) = q1 at *
      generalize bs (listL A) = q2 at *
      generalize bs (textL s) = q3 at *
      generalize bs (numL n ++ (listL A ++ textL s)) = q4 at *
      clear HC hq1 hq2 hq3
      generalize w4.heap.size = b at *
      clear hb5 B4
      go_wp2_with (fail)
      refine (numRead_at _ _ _ hR5 (by simp only [List.length_append]; omega) R1.out).mono ?_
      rintro e w6 ⟨rfl, hR6, hg6⟩
      have B6 := below_grown B5 hg6 hs4 hR5.lt
      clear R1 hR5 hg6 B5
      go_wp2_with (fail)
      refine (listRead_at _ _ _ hR6 (by simp only [List.length_append]; omega) R2.out).mono ?_
      rintro e w7 ⟨a7, cap7, rfl, hS7, hL7, hR7, hg7, _⟩
      have B7 := below_grown B6 hg7 hs4 hR6.lt
      have hA7 := hA.grew B7
      clear R2 hR6 hg7 B6
      go_wp2_with (fail)
      refine (same_any A A a7 a cap7 ca w7 hS7 hA7 (by omega) (by omega)).mono ?_
      rintro e w8 ⟨rfl, hb8⟩
      rw [same_refl]
      have B8 := B7.trans (hb8.mono B7.size)
      have hR8 := rd_below hR7 hb8
      clear hS7 hA7 hR7 hb8 B7 hA
      go_wp2_with (fail)
      refine (end_at _ _ _ hR8 E1.out).mono ?_
      rintro e w9 ⟨rfl, rfl⟩
      go_wp2_with (fail)
      rw [List.append_nil] at R3
      refine (textRead_at _ _ _ hR8 (by simp only; omega) R3.out).mono ?_
      rintro e w10 ⟨rfl, hR10, hg10⟩
      have B10 := below_grown B8 hg10 hs4 hR8.lt
      clear R3 hR8 hg10 B8
      go_wp2_with (fail)
      refine (end_at _ _ _ hR10 (k := 0) rfl).mono ?_
      rintro e w11 ⟨rfl, rfl⟩
      go_wp2_with (fail)
      refine (awake_any _).mono ?_
      rintro e w12 ⟨rfl, hb12⟩
      go_wp2
      go_ret
      exact ⟨rfl, B10.trans (hb12.mono B10.size)⟩
    · as_aux_lemma =>
      go_wp2_with (fail)
      refine (awake_any w1).mono ?_
      rintro e w5 ⟨rfl, hb6⟩
      go_wp2
      go_ret
      exact ⟨rfl, hb6⟩
  · as_aux_lemma =>
    rw [Bool.not_eq_true] at fA
    refine (few_at hA hla hca hsA fA).mono ?_
    rintro e w1 ⟨rfl, rfl⟩
    go_wp2_with (fail)
    refine (awake_any w1).mono ?_
    rintro e w5 ⟨rfl, hb6⟩
    go_wp2
    go_ret
    exact ⟨rfl, hb6⟩
end Go.Proofs.Ytlbacddgjagcbaa
