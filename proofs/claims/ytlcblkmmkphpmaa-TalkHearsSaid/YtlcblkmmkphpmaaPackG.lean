/- The walks of the reference's reader: End, Text, List. Conditions: as each theorem says. -/
import Derived.Test.YtlcblkmmkphpmaaPackF
import Derived.Test.YtlcblkmmkphpmaaPackU
namespace Go.Proofs.Ytlcblkmmkphpmaa
open Go.RowKit

set_option maxRecDepth 100000 in
theorem refEnd_any (b : Nat) (r : Rd) (w : World) (h : RdAt 71 b r w) :
    Calls Try.prog 36 #[.pointer (some ⟨b, 0, none⟩)] w fun e w' => e = .returned (.int .i64 (endR r : Int)) ∧ w' = w := by
  have c0 := h.c0
  have c1 := h.c1
  by_cases h0 : r.e = 0
  · rw [h0] at c1
    by_cases hl : r.l = []
    · as_aux_lemma =>
      have hE := endR_no r (fun hh => hh.2 hl)
      rw [hl] at c0
      rw [hE, h0]
      change _ = some (Value.string ⟨#[]⟩) at c0
      go_enter Try.func36, Try.ntmps36
      go_wp2
      go_ret
      exact ⟨rfl, rfl⟩
    · as_aux_lemma =>
      have hE := endR_ok r h0 hl
      have hne := notEmpty (bs r.l) (by rw [bs_size]; exact List.length_pos_iff.2 hl)
      rw [hE]
      go_enter Try.func36, Try.ntmps36
      go_wp2
      go_ret
      exact ⟨rfl, rfl⟩
  · as_aux_lemma =>
    have hE := endR_no r (fun hh => h0 hh.1)
    have h1 : ((r.e : Int) == 0) = false := by rw [beq_eq_false_iff_ne]; omega
    rw [hE]
    go_enter Try.func36, Try.ntmps36
    go_wp2
    go_ret
    exact ⟨rfl, rfl⟩

set_option maxRecDepth 100000 in
set_option maxHeartbeats 800000 in
theorem refText_any (b : Nat) (r : Rd) (w : World) (h : RdAt 71 b r w) (hl : r.l.length ≤ 9223372036854775807) :
    Calls Try.prog 59 #[.pointer (some ⟨b, 0, none⟩)] w fun e w' => e = .returned (.string (bs (textR r).1)) ∧ RdAt 71 b (textR r).2 w' ∧ w.grownBy w' (some b) := by
  have Hw := Lib.hid (textR_w r)
  have Hn := Lib.hid (textR_n r)
  have Hs := Lib.hid (textR_s r)
  have Ho := Lib.hid (textR_o r)
  have hlen := numR_len r
  have hN := Lib.hid (refNum_any b r w h hl)
  generalize textR r = tr at *
  generalize numR r = nr at *
  obtain ⟨n, r1⟩ := nr
  obtain ⟨ts, tr1⟩ := tr
  simp only at Hw Hn Hs Ho hlen hN
  go_enter Try.func59, Try.ntmps59
  go_wp2_with (fail)
  refine hN.out.mono ?_
  rintro e w1 ⟨rfl, hR1, hg1⟩
  have c1 := hR1.c1
  by_cases he : r1.e = 0
  · rw [he] at c1
    have f1 := hR1.f 1
    by_cases hn : n < 0
    · as_aux_lemma =>
      have HT := Lib.hid (Hn.out he hn)
      have HS := hR1.set1 11
      go_wp2
      go_ret
      injection HT.out with H1 H2
      exact ⟨by rw [H1]; rfl, by rw [H2]; exact HS, grown_trans hg1 (grown_set _ _ _ _)⟩
    · by_cases hs : (r1.l.length : Int) < n
      · as_aux_lemma =>
        have HT := Lib.hid (Hs.out he (by omega) (by omega))
        have c0 := hR1.c0
        have hz := bs_size r1.l
        have HS := hR1.set1 10
        go_wp2
        go_ret
        injection HT.out with H1 H2
        exact ⟨by rw [H1]; rfl, by rw [H2]; exact HS, grown_trans hg1 (grown_set _ _ _ _)⟩
      · as_aux_lemma =>
        have HT := Lib.hid (Ho.out he (by omega) (by omega))
        have c0 := hR1.c0
        have f0 := hR1.f 0
        have hz := bs_size r1.l
        have HS := hR1.set0 (r1.l.drop n.toNat)
        have hnn : n.toNat ≤ r1.l.length := by omega
        have hni : ((n.toNat : Nat) : Int) = n := by omega
        obtain ⟨m, rfl⟩ : ∃ m : Nat, n = (m : Int) := ⟨n.toNat, hni.symm⟩
        simp only [Int.toNat_natCast] at *
        have HE : Hid ((bs r1.l).extract m r1.l.length = bs (r1.l.drop m)) := by
          show _ = _
          rw [bs_extract, List.take_of_length_le (by rw [List.length_drop]; omega)]
        have HE2 : Hid ((bs r1.l).extract 0 m = bs (r1.l.take m)) := by
          show _ = _
          rw [bs_extract]; simp
        go_wp2
        go_ret
        injection HT.out with H1 H2
        refine ⟨?_, ?_, grown_trans hg1 (grown_set _ _ _ _)⟩
        · rw [H1, ← HE2.out]; rfl
        · rw [H2, HE.out]; rw [he] at HS; exact HS
  · as_aux_lemma =>
    have HT := Lib.hid (Hw.out he)
    have h1 : ((r1.e : Int) == 0) = false := by rw [beq_eq_false_iff_ne]; omega
    go_wp2
    go_ret
    injection HT.out with H1 H2
    exact ⟨by rw [H1]; rfl, by rw [H2]; exact hR1, hg1⟩

end Go.Proofs.Ytlcblkmmkphpmaa
