/- The walks of the program's reader: End, Text, List. Conditions: as each theorem says. -/
import Derived.Test.YtlcblkmmkphpmaaPackR
namespace Go.Proofs.Ytlcblkmmkphpmaa
open Go.RowKit

theorem dec_len (l : List UInt8) : ∀ i u, (dec i u l).2.2.length ≤ l.length := by
  induction l with
  | nil => intro i u; simp [dec]
  | cons b r ih =>
    intro i u
    unfold dec
    split
    · simp
    · split
      · simp
      · split
        · simp
        · have := ih (i + 1) (u + (b.toNat - 128) * 2 ^ (7 * i)); simp; omega
theorem numR_len (r : Rd) : (numR r).2.l.length ≤ r.l.length := by
  unfold numR
  split
  · exact Nat.le_refl _
  · split
    · exact dec_len _ _ _
    · exact Nat.le_refl _
theorem numR_bd (r : Rd) : -9223372036854775808 ≤ (numR r).1 ∧ (numR r).1 ≤ 9223372036854775807 := by
  unfold numR
  split
  · simp
  · split
    · exact unzig_bd _ (dec_lt _ 0 0 (by omega) (by simp))
    · simp
theorem textR_len (r : Rd) : (textR r).2.l.length ≤ r.l.length := by
  have := numR_len r
  unfold textR
  split
  · exact this
  · split
    · exact this
    · split
      · exact this
      · simp only [List.length_drop]; omega
theorem endR_ok (r : Rd) (h : r.e = 0) (hl : r.l ≠ []) : endR r = 12 := by unfold endR; rw [if_pos ⟨h, hl⟩]
theorem endR_no (r : Rd) (h : ¬ (r.e = 0 ∧ r.l ≠ [])) : endR r = r.e := by unfold endR; rw [if_neg h]

set_option maxRecDepth 100000 in
theorem end_any (b : Nat) (r : Rd) (w : World) (h : RdAt 111 b r w) :
    Calls Try.prog 67 #[.pointer (some ⟨b, 0, none⟩)] w fun e w' => e = .returned (.int .i64 (endR r : Int)) ∧ w' = w := by
  have c0 := h.c0
  have c1 := h.c1
  by_cases h0 : r.e = 0
  · rw [h0] at c1
    by_cases hl : r.l = []
    · as_aux_lemma =>
      have hE := endR_no r (fun hh => hh.2 hl)
      rw [hl] at c0
      rw [hE, h0]
      change _ = some (Value.string ⟨#[]⟩) at c0
      go_enter Try.func67, Try.ntmps67
      go_wp2
      go_ret
      exact ⟨rfl, rfl⟩
    · as_aux_lemma =>
      have hE := endR_ok r h0 hl
      have hne := notEmpty (bs r.l) (by rw [bs_size]; exact List.length_pos_iff.2 hl)
      rw [hE]
      go_enter Try.func67, Try.ntmps67
      go_wp2
      go_ret
      exact ⟨rfl, rfl⟩
  · as_aux_lemma =>
    have hE := endR_no r (fun hh => h0 hh.1)
    have h1 : ((r.e : Int) == 0) = false := by rw [beq_eq_false_iff_ne]; omega
    rw [hE]
    go_enter Try.func67, Try.ntmps67
    go_wp2
    go_ret
    exact ⟨rfl, rfl⟩

theorem textR_w (r : Rd) (h : (numR r).2.e ≠ 0) : textR r = ([], (numR r).2) := by unfold textR; rw [if_pos h]
theorem textR_n (r : Rd) (h : (numR r).2.e = 0) (hn : (numR r).1 < 0) : textR r = ([], ⟨(numR r).2.l, 11⟩) := by unfold textR; rw [if_neg (by omega), if_pos hn]
theorem textR_s (r : Rd) (h : (numR r).2.e = 0) (hn : ¬ (numR r).1 < 0) (hs : ((numR r).2.l.length : Int) < (numR r).1) : textR r = ([], ⟨(numR r).2.l, 10⟩) := by unfold textR; rw [if_neg (by omega), if_neg hn, if_pos hs]
theorem textR_o (r : Rd) (h : (numR r).2.e = 0) (hn : ¬ (numR r).1 < 0) (hs : ¬ ((numR r).2.l.length : Int) < (numR r).1) : textR r = ((numR r).2.l.take (numR r).1.toNat, ⟨(numR r).2.l.drop (numR r).1.toNat, 0⟩) := by unfold textR; rw [if_neg (by omega), if_neg hn, if_neg hs]

set_option maxRecDepth 100000 in
set_option maxHeartbeats 400000 in
theorem textRead_any (b : Nat) (r : Rd) (w : World) (h : RdAt 111 b r w) (hl : r.l.length ≤ 9223372036854775807) :
    Calls Try.prog 81 #[.pointer (some ⟨b, 0, none⟩)] w fun e w' => e = .returned (.string (bs (textR r).1)) ∧ RdAt 111 b (textR r).2 w' ∧ w.grownBy w' (some b) := by
  have Hw := Lib.hid (textR_w r)
  have Hn := Lib.hid (textR_n r)
  have Hs := Lib.hid (textR_s r)
  have Ho := Lib.hid (textR_o r)
  have hlen := numR_len r
  have hN := Lib.hid (numRead_any b r w h hl)
  generalize textR r = tr at *
  generalize numR r = nr at *
  obtain ⟨n, r1⟩ := nr
  obtain ⟨ts, tr1⟩ := tr
  simp only at Hw Hn Hs Ho hlen hN
  go_enter Try.func81, Try.ntmps81
  go_wp2_with (fail)
  refine hN.out.mono ?_
  rintro e w1 ⟨rfl, hR1, hg1⟩
  go_wp2_with (fail)
  have hwe := well_any 111 b r1 w1 hR1
  by_cases he : r1.e = 0
  · rw [decide_eq_true he] at hwe
    refine hwe.mono ?_
    rintro e w2 ⟨rfl, rfl⟩
    clear hwe
    by_cases hn : n < 0
    · as_aux_lemma =>
      have HT := Hn.out he hn
      have HF := Lib.hid (fails_any b r1 11 w2 hR1)
      go_wp2_with (fail)
      refine HF.out.mono ?_
      rintro e w3 ⟨rfl, hR3, hg3⟩
      go_wp2
      go_ret
      injection HT with H1 H2
      exact ⟨by rw [H1]; rfl, by rw [H2]; exact hR3, grown_trans hg1 hg3⟩
    · by_cases hs : (r1.l.length : Int) < n
      · as_aux_lemma =>
        have HT := Lib.hid (Hs.out he (by omega) (by omega))
        have HF := Lib.hid (fails_any b r1 10 w2 hR1)
        have c0 := hR1.c0
        have hz := bs_size r1.l
        go_wp2_with (fail)
        refine HF.out.mono ?_
        rintro e w3 ⟨rfl, hR3, hg3⟩
        go_wp2
        go_ret
        injection HT.out with H1 H2
        exact ⟨by rw [H1]; rfl, by rw [H2]; exact hR3, grown_trans hg1 hg3⟩
      · as_aux_lemma =>
        have HT := Lib.hid (Ho.out he (by omega) (by omega))
        have c0 := hR1.c0
        have f0 := hR1.f 0
        have hz := bs_size r1.l
        have HS := hR1.set0 (r1.l.drop n.toNat)
        have hnn : n.toNat ≤ r1.l.length := by omega
        have hni : ((n.toNat : Nat) : Int) = n := by omega
        obtain ⟨m, rfl⟩ : ∃ m : Nat, n = (m : Int) := ⟨n.toNat, hni.symm⟩
        simp only [Int.toNat_natCast] at *
        have HE : Hid ((bs r1.l).extract m r1.l.length = bs (r1.l.drop m)) := by
          show _ = _
          rw [bs_extract, List.take_of_length_le (by rw [List.length_drop]; omega)]
        have HE2 : Hid ((bs r1.l).extract 0 m = bs (r1.l.take m)) := by
          show _ = _
          rw [bs_extract]; simp
        go_wp2
        go_ret
        injection HT.out with H1 H2
        refine ⟨?_, ?_, grown_trans hg1 (grown_set _ _ _ _)⟩
        · rw [H1, ← HE2.out]; rfl
        · rw [H2, HE.out]; rw [he] at HS; exact HS
  · as_aux_lemma =>
    rw [decide_eq_false he] at hwe
    have HT := Hw.out he
    refine hwe.mono ?_
    rintro e w2 ⟨rfl, rfl⟩
    clear hwe
    go_wp2
    go_ret
    injection HT with H1 H2
    exact ⟨by rw [H1]; rfl, by rw [H2]; exact hR1, hg1⟩
end Go.Proofs.Ytlcblkmmkphpmaa
