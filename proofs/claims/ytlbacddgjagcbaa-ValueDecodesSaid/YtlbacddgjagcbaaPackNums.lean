/- The walk of the statement PackNums. Conditions: none. -/
import Derived.Test.YtlbacddgjagcbaaPackApart
import Derived.Test.YtlbacddgjagcbaaPackT
namespace Go.Proofs.Ytlbacddgjagcbaa
open Go.RowKit

set_option maxRecDepth 100000 in
theorem read_any (l : List UInt8) (w : World) : Calls Try.prog 25 #[.string (bs l)] w fun e w' => e = .returned (.pointer (some ⟨w.heap.size, 0, none⟩)) ∧ RdAt 91 w.heap.size ⟨l, 0⟩ w' ∧ Below w.heap.size w w' := by
  go_enter Try.func25, Try.ntmps25
  go_wp2
  go_ret
  exact ⟨rfl, heap_alloc_new w _, (Below.refl _ w).alloc (Nat.le_refl _) _⟩

theorem below_grown {B b : Nat} {a w w' : World} (h : Below B a w) (hg : w.grownBy w' (some b)) (hB : B ≤ b) (hb : b < w.heap.size) : Below B a w' :=
  h.grown hg (by omega) (fun k hk => by cases hk; exact hB)
theorem rd_below {T : TypeId} {b : Nat} {r : Rd} {w w' : World} (h : RdAt T b r w) (hb : Below w.heap.size w w') : RdAt T b r w' := Grew.at_ hb h
theorem nums_back (data : List UInt8) (h : endR (numR ⟨data, 0⟩).2 = 0) : numL (numR ⟨data, 0⟩).1 = data := by
  have hk := dec_kind data 0 0
  have hb := fun r v => dec_num_back data r v
  unfold numR at h ⊢
  simp only [ne_eq, not_true_eq_false, if_false] at h ⊢
  generalize dec 0 0 data = d at *
  obtain ⟨k, v, r⟩ := d
  simp only at h hk ⊢
  by_cases h0 : k = 0
  · subst h0
    simp only [if_true] at h ⊢
    have hr : r = [] := by
      unfold endR at h
      by_cases hr : r = []
      · exact hr
      · rw [if_pos ⟨rfl, hr⟩] at h; omega
    subst hr
    have := hb [] v rfl
    rw [List.append_nil] at this
    unfold numL
    rw [zig_unzig, this]
  · rw [if_neg h0] at h
    simp only at h
    unfold endR at h
    rw [if_neg (fun hh => h0 hh.1)] at h
    exact absurd h h0

set_option maxRecDepth 100000 in
set_option maxHeartbeats 400000 in
theorem packNums_walk (n : Int) (data : ByteArray) (hn : (Lit.int .i64 n).wf = true) (hd : data.size ≤ maxLen) (w : World) :
    Calls Try.prog 5 #[.int .i64 n, .string data] w fun e w' => e = .returned (.bool true) ∧ Below w.heap.size w w' := by
  obtain ⟨hn1, hn2⟩ := bounds_i64 hn
  obtain ⟨l, rfl⟩ : ∃ l, data = bs l := ⟨_, (bs_of data).symm⟩
  have hz := bs_size l
  have hmx : l.length ≤ 9223372036854775807 := by rw [← hz]; exact hd
  by_cases h100 : l.length ≤ 100
  · have h1 := numR_back n [] hn1 hn2
    rw [List.append_nil] at h1
    have hsz := numSize n hn1 hn2
    have hll := numL_len n hn1 hn2
    have H1 := Lib.hid h1
    clear h1
    go_enter Try.func5, Try.ntmps5
    go_wp2_with (fail)
    refine (num_any n hn1 hn2 _).mono ?_
    rintro e w1 ⟨rfl, hb1⟩
    go_wp2_with (fail)
    refine (read_any _ _).mono ?_
    rintro e w2 ⟨rfl, hR2, hb2⟩
    have B2 : Below w.heap.size w w2 := hb1.trans (hb2.mono hb1.size)
    have hs1 := hb1.size
    generalize w1.heap.size = b1 at *
    clear hb1 hb2
    go_wp2_with (fail)
    refine (numRead_any _ _ _ hR2 (by simp only; omega)).mono ?_
    rintro e w3 ⟨rfl, hR3, hg3⟩
    rw [H1.out] at hR3 ⊢
    have B3 := below_grown B2 hg3 hs1 hR2.lt
    clear hR2 hg3
    go_wp2_with (fail)
    refine (end_any _ _ _ hR3).mono ?_
    rintro e w4 ⟨rfl, rfl⟩
    rw [show endR (n, (⟨[], 0⟩ : Rd)).2 = 0 from rfl]
    go_wp2_with (fail)
    refine (num_any n hn1 hn2 _).mono ?_
    rintro e w5 ⟨rfl, hb5⟩
    have B5 : Below w.heap.size w w5 := B3.trans (hb5.mono B3.size)
    clear hb5 hR3 B3 B2
    generalize bs (numL n) = q at *
    go_wp2_with (fail)
    refine (read_any _ _).mono ?_
    rintro e w6 ⟨rfl, hR6, hb6⟩
    have B6 : Below w.heap.size w w6 := B5.trans (hb6.mono B5.size)
    have hs5 := B5.size
    generalize w5.heap.size = b5 at *
    clear hb6 B5
    go_wp2_with (fail)
    refine (numRead_any _ _ _ hR6 hmx).mono ?_
    rintro e w7 ⟨rfl, hR7, hg7⟩
    have B7 := below_grown B6 hg7 hs5 hR6.lt
    clear hR6 hg7 B6
    have hback := nums_back l
    have hbd := numR_bd ⟨l, 0⟩
    generalize numR ⟨l, 0⟩ = nr at *
    obtain ⟨m, r7⟩ := nr
    go_wp2_with (fail)
    refine (end_any _ _ _ hR7).mono ?_
    rintro e w8 ⟨rfl, rfl⟩
    by_cases he : endR (m, r7).2 = 0
    · as_aux_lemma =>
      have hm := hback he
      rw [he]
      go_wp2_with (fail)
      refine (num_any m hbd.1 hbd.2 _).mono ?_
      rintro e w9 ⟨rfl, hb9⟩
      have B9 : Below w.heap.size w w9 := B7.trans (hb9.mono B7.size)
      have heq : ((bs (numL m)).toList == (bs l).toList) = true := by rw [show numL m = l from hm]; simp
      generalize bs (numL m) = q2 at *
      go_wp2_with (fail)
      refine (awake_any w9).mono ?_
      rintro e w10 ⟨rfl, hb10⟩
      go_wp2
      go_ret
      exact ⟨rfl, B9.trans (hb10.mono B9.size)⟩
    · as_aux_lemma =>
      have he2 : ((endR (m, r7).2 : Int) == 0) = false := by rw [beq_eq_false_iff_ne]; omega
      generalize endR (m, r7).2 = ee at *
      go_wp2_with (fail)
      refine (awake_any w8).mono ?_
      rintro e w10 ⟨rfl, hb10⟩
      go_wp2
      go_ret
      exact ⟨rfl, B7.trans (hb10.mono B7.size)⟩
  · as_aux_lemma =>
    go_enter Try.func5, Try.ntmps5
    go_wp2_with (fail)
    refine (awake_any w).mono ?_
    rintro e w10 ⟨rfl, hb10⟩
    go_wp2
    go_ret
    exact ⟨rfl, hb10⟩
end Go.Proofs.Ytlbacddgjagcbaa
