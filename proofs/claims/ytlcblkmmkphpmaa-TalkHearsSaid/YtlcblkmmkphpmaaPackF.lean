/- The walks of the reference's reader: Num. Conditions: as each theorem says. -/
import Derived.Test.YtlcblkmmkphpmaaPackT
namespace Go.Proofs.Ytlcblkmmkphpmaa
open Go.RowKit

theorem and1_1 (v : Nat) (hv : v < 18446744073709551616) (h : v % 2 = 1) : bits .and .u64 (v : Int) 1 = 1 := by rw [Lib.u64_and1 _ (by omega) (by omega)]; omega
theorem and1_0 (v : Nat) (hv : v < 18446744073709551616) (h : ¬ v % 2 = 1) : bits .and .u64 (v : Int) 1 = 0 := by rw [Lib.u64_and1 _ (by omega) (by omega)]; omega
theorem unzig_1 (v : Nat) (h : v % 2 = 1) : unzig v = -1 - (v : Int) / 2 := by unfold unzig; rw [if_neg (by omega)]; omega
theorem unzig_0 (v : Nat) (h : ¬ v % 2 = 1) : unzig v = (v : Int) / 2 := by unfold unzig; rw [if_pos (by omega)]; omega

set_option maxRecDepth 100000 in
set_option maxHeartbeats 3200000 in
theorem refNum_any (b : Nat) (r : Rd) (w : World) (h : RdAt 71 b r w) (hl : r.l.length ≤ 9223372036854775807) :
    Calls Try.prog 32 #[.pointer (some ⟨b, 0, none⟩)] w fun e w' => e = .returned (.int .i64 (numR r).1) ∧ RdAt 71 b (numR r).2 w' ∧ w.grownBy w' (some b) := by
  have c1 := h.c1
  by_cases he : r.e = 0
  · rw [he] at c1
    have c0 := h.c0
    have f0 := h.f 0
    have f1 := h.f 1
    have hz := bs_size r.l
    go_enter Try.func32, Try.ntmps32
    go_wp2
    go_loop [3, 4] (fun vu vi => ∃ (u i : Nat), vu = .int .u64 u ∧ vi = .int .i64 i ∧ i ≤ 9 ∧ i ≤ r.l.length ∧ u < 2 ^ (7 * i) ∧ dec 0 0 r.l = dec i u (r.l.drop i)) (fun _ vi => 10 - (intOf vi).toNat)
    case atStart => exact ⟨0, 0, rfl, rfl, by omega, by omega, by simp, by simp⟩
    case round =>
      obtain ⟨u, i, rfl, rfl, hi9, hil, hu, hdec⟩ := hrel
      have Hu := Lib.hid hu
      have Hd := Lib.hid hdec
      clear hu hdec
      have hi10 : ((i : Int) == 10) = false := by rw [beq_eq_false_iff_ne]; omega
      by_cases hlt : i < r.l.length
      · have hg := bs_get r.l i (by omega)
        have hbl := (r.l[i]).toNat_lt
        generalize hx : r.l[i] = x at *
        have Hx := Lib.hid hx
        clear hx
        by_cases hbad : (i = 9 ∧ 1 < x.toNat) ∨ (0 < i ∧ x.toNat = 0)
        · have HR := Lib.hid (numR_bad r i u he Hd.out hlt x Hx.out hbad)
          have HS := h.set1 11
          have HB := Lib.hid hbad
          clear hbad
          by_cases hi9' : i = 9
          · have hi3 : ((i : Int) == 9) = true := by rw [beq_iff_eq]; omega
            have hi1 : 8 < i := by omega
            by_cases hx1 : 1 < x.toNat
            · as_aux_lemma =>
              clear hi9'
              go_wp2
              go_ret
              exact ⟨by rw [HR.out]; rfl, by rw [HR.out]; exact HS, grown_set _ _ _ _⟩
            · as_aux_lemma =>
              have hx0 : ((x.toNat : Int) == 0) = true := by have := HB.out; rw [beq_iff_eq]; omega
              clear hi9'
              go_wp2
              go_ret
              exact ⟨by rw [HR.out]; rfl, by rw [HR.out]; exact HS, grown_set _ _ _ _⟩
          · as_aux_lemma =>
            have hi3 : ((i : Int) == 9) = false := by rw [beq_eq_false_iff_ne]; omega
            have hx0 : ((x.toNat : Int) == 0) = true := by have := HB.out; rw [beq_iff_eq]; omega
            have hi1 : 0 < i := by have := HB.out; omega
            have hi2 : i < 9 := by omega
            clear hi9'
            go_wp2
            go_ret
            exact ⟨by rw [HR.out]; rfl, by rw [HR.out]; exact HS, grown_set _ _ _ _⟩
        · have hacc := acc_or u (x.toNat % 128) i Hu.out (by omega) hi9 (by omega)
          have hvl := acc_lt u (x.toNat % 128) i Hu.out (by omega)
          rw [← and127] at hacc
          generalize hv : u + x.toNat % 128 * 2 ^ (7 * i) = v at hacc hvl
          have HV := Lib.hid hv
          have HVL := Lib.hid hvl
          clear hv hvl
          by_cases h128 : x.toNat < 128
          · have HR := Lib.hid (numR_ok r i u he Hd.out hlt x Hx.out hbad h128)
            have hv64 : v < 18446744073709551616 := by
              have h2 := HV.out
              have h3 := shl_lt (x.toNat % 128) i (by omega) hi9 (by omega)
              have h4 := HVL.out
              by_cases h9 : i = 9
              · subst h9
                have h5 := Hu.out
                have e : (2 : Nat) ^ (7 * 9) = 9223372036854775808 := by decide
                rw [e] at h5 h2
                have : x.toNat % 128 * 9223372036854775808 ≤ 1 * 9223372036854775808 := Nat.mul_le_mul_right _ (by omega)
                omega
              · have h5 : 2 ^ (7 * (i + 1)) ≤ 2 ^ 63 := Nat.pow_le_pow_right (by omega) (by omega)
                have e : (2 : Nat) ^ 63 = 9223372036854775808 := by decide
                omega
            have HV2 : Hid (v = u + x.toNat * 2 ^ (7 * i)) := by
              have h2 := HV.out
              have : x.toNat % 128 = x.toNat := by omega
              rw [this] at h2; exact h2.symm
            have HS := h.set0 (r.l.drop (i + 1))
            have HE : Hid ((bs r.l).extract (i + 1) r.l.length = bs (r.l.drop (i + 1))) := by
              show _ = _
              rw [bs_extract, List.take_of_length_le (by rw [List.length_drop]; omega)]
            have HB := Lib.hid hbad
            clear hbad
            by_cases hpar : v % 2 = 1
            · have hq := and1_1 v hv64 hpar
              have HZ := Lib.hid (unzig_1 v hpar)
              clear hpar
              by_cases hi0 : i = 0
              · as_aux_lemma =>
                have hi1 : (i : Int) < 1 := by omega
                have hi3 : ((i : Int) == 9) = false := by rw [beq_eq_false_iff_ne]; omega
                clear hi0
                go_wp2
                go_ret
                refine ⟨?_, ?_, grown_set _ _ _ _⟩
                · rw [HR.out, ← HV2.out, HZ.out]; rfl
                · rw [HR.out, HE.out]; rw [he] at HS; exact HS
              · by_cases hi9' : i = 9
                · as_aux_lemma =>
                  have hx0 : 0 < x.toNat := by have := HB.out; omega
                  have hx2 : x.toNat ≤ 1 := by have := HB.out; omega
                  have hx1 : ((x.toNat : Int) == 0) = false := by rw [beq_eq_false_iff_ne]; omega
                  have hi1 : 8 < i := by omega
                  have hi3 : ((i : Int) == 9) = true := by rw [beq_iff_eq]; omega
                  clear hi0 hi9'
                  go_wp2
                  go_ret
                  refine ⟨?_, ?_, grown_set _ _ _ _⟩
                  · rw [HR.out, ← HV2.out, HZ.out]; rfl
                  · rw [HR.out, HE.out]; rw [he] at HS; exact HS
                · as_aux_lemma =>
                  have hx0 : 0 < x.toNat := by have := HB.out; omega
                  have hx1 : ((x.toNat : Int) == 0) = false := by rw [beq_eq_false_iff_ne]; omega
                  have hi1 : 0 < i := by omega
                  have hi2 : i < 9 := by omega
                  have hi3 : ((i : Int) == 9) = false := by rw [beq_eq_false_iff_ne]; omega
                  clear hi0 hi9'
                  go_wp2
                  go_ret
                  refine ⟨?_, ?_, grown_set _ _ _ _⟩
                  · rw [HR.out, ← HV2.out, HZ.out]; rfl
                  · rw [HR.out, HE.out]; rw [he] at HS; exact HS
            · have hq := and1_0 v hv64 hpar
              have HZ := Lib.hid (unzig_0 v hpar)
              clear hpar
              by_cases hi0 : i = 0
              · as_aux_lemma =>
                have hi1 : (i : Int) < 1 := by omega
                have hi3 : ((i : Int) == 9) = false := by rw [beq_eq_false_iff_ne]; omega
                clear hi0
                go_wp2
                go_ret
                refine ⟨?_, ?_, grown_set _ _ _ _⟩
                · rw [HR.out, ← HV2.out, HZ.out]; rfl
                · rw [HR.out, HE.out]; rw [he] at HS; exact HS
              · by_cases hi9' : i = 9
                · as_aux_lemma =>
                  have hx0 : 0 < x.toNat := by have := HB.out; omega
                  have hx2 : x.toNat ≤ 1 := by have := HB.out; omega
                  have hx1 : ((x.toNat : Int) == 0) = false := by rw [beq_eq_false_iff_ne]; omega
                  have hi1 : 8 < i := by omega
                  have hi3 : ((i : Int) == 9) = true := by rw [beq_iff_eq]; omega
                  clear hi0 hi9'
                  go_wp2
                  go_ret
                  refine ⟨?_, ?_, grown_set _ _ _ _⟩
                  · rw [HR.out, ← HV2.out, HZ.out]; rfl
                  · rw [HR.out, HE.out]; rw [he] at HS; exact HS
                · as_aux_lemma =>
                  have hx0 : 0 < x.toNat := by have := HB.out; omega
                  have hx1 : ((x.toNat : Int) == 0) = false := by rw [beq_eq_false_iff_ne]; omega
                  have hi1 : 0 < i := by omega
                  have hi2 : i < 9 := by omega
                  have hi3 : ((i : Int) == 9) = false := by rw [beq_eq_false_iff_ne]; omega
                  clear hi0 hi9'
                  go_wp2
                  go_ret
                  refine ⟨?_, ?_, grown_set _ _ _ _⟩
                  · rw [HR.out, ← HV2.out, HZ.out]; rfl
                  · rw [HR.out, HE.out]; rw [he] at HS; exact HS
          · have hi2 : i < 9 := by omega
            have HN : Hid (dec 0 0 r.l = dec (i + 1) v (r.l.drop (i + 1))) := by
              have h1 := dec_next r.l i u Hd.out hlt (by omega) x Hx.out hbad h128
              have h2 := HV.out
              have : x.toNat % 128 = x.toNat - 128 := by omega
              rw [this] at h2
              rw [h2] at h1; exact h1
            have hi3 : ((i : Int) == 9) = false := by rw [beq_eq_false_iff_ne]; omega
            have hx1 : ((x.toNat : Int) == 0) = false := by rw [beq_eq_false_iff_ne]; omega
            clear hbad
            by_cases hi0 : i = 0
            · as_aux_lemma =>
              have hi1 : (i : Int) < 1 := by omega
              clear hi0
              go_wp2
              go_round
              case rel => exact ⟨v, i + 1, by first | rfl | (rw [hacc]), by go_num, by omega, by omega, HVL.out, HN.out⟩
              case measure => simp [intOf]; omega
            · as_aux_lemma =>
              have hi1 : 0 < i := by omega
              clear hi0
              go_wp2
              go_round
              case rel => exact ⟨v, i + 1, by first | rfl | (rw [hacc]), by go_num, by omega, by omega, HVL.out, HN.out⟩
              case measure => simp [intOf]; omega
      · as_aux_lemma =>
        have HR := Lib.hid (numR_end r i u he Hd.out (by omega))
        have HS := h.set1 10
        go_wp2
        go_ret
        exact ⟨by rw [HR.out]; rfl, by rw [HR.out]; exact HS, grown_set _ _ _ _⟩
  · as_aux_lemma =>
    have HR := Lib.hid (numR_e r he)
    have h1 : ((r.e : Int) == 0) = false := by rw [beq_eq_false_iff_ne]; omega
    go_enter Try.func32, Try.ntmps32
    go_wp2
    go_ret
    exact ⟨by rw [HR.out]; rfl, by rw [HR.out]; exact h, grown_refl _ _⟩
end Go.Proofs.Ytlcblkmmkphpmaa
