/- The walks of the reference's reader: End, Text, List. Conditions: as each theorem says. -/
import Derived.Test.YtlbacddgjagcbaaPackF
import Derived.Test.YtlbacddgjagcbaaPackU
namespace Go.Proofs.Ytlbacddgjagcbaa
open Go.RowKit

set_option maxRecDepth 100000 in
theorem refEnd_any (b : Nat) (r : Rd) (w : World) (h : RdAt 43 b r w) :
    Calls Try.prog 33 #[.pointer (some ⟨b, 0, none⟩)] w fun e w' => e = .returned (.int .i64 (endR r : Int)) ∧ w' = w := by
  have c0 := h.c0
  have c1 := h.c1
  by_cases h0 : r.e = 0
  · rw [h0] at c1
    by_cases hl : r.l = []
    · as_aux_lemma =>
      have hE := endR_no r (fun hh => hh.2 hl)
      rw [hl] at c0
      rw [hE, h0]
      change _ = some (Value.string ⟨#[]⟩) at c0
      go_enter Try.func33, Try.ntmps33
      go_wp2
      go_ret
      exact ⟨rfl, rfl⟩
    · as_aux_lemma =>
      have hE := endR_ok r h0 hl
      have hne := notEmpty (bs r.l) (by rw [bs_size]; exact List.length_pos_iff.2 hl)
      rw [hE]
      go_enter Try.func33, Try.ntmps33
      go_wp2
      go_ret
      exact ⟨rfl, rfl⟩
  · as_aux_lemma =>
    have hE := endR_no r (fun hh => h0 hh.1)
    have h1 : ((r.e : Int) == 0) = false := by rw [beq_eq_false_iff_ne]; omega
    rw [hE]
    go_enter Try.func33, Try.ntmps33
    go_wp2
    go_ret
    exact ⟨rfl, rfl⟩

set_option maxRecDepth 100000 in
set_option maxHeartbeats 800000 in
theorem refText_any (b : Nat) (r : Rd) (w : World) (h : RdAt 43 b r w) (hl : r.l.length ≤ 9223372036854775807) :
    Calls Try.prog 31 #[.pointer (some ⟨b, 0, none⟩)] w fun e w' => e = .returned (.string (bs (textR r).1)) ∧ RdAt 43 b (textR r).2 w' ∧ w.grownBy w' (some b) := by
  have Hw := Lib.hid (textR_w r)
  have Hn := Lib.hid (textR_n r)
  have Hs := Lib.hid (textR_s r)
  have Ho := Lib.hid (textR_o r)
  have hlen := numR_len r
  have hN := Lib.hid (refNum_any b r w h hl)
  generalize textR r = tr at *
  generalize numR r = nr at *
  obtain ⟨n, r1⟩ := nr
  obtain ⟨ts, tr1⟩ := tr
  simp only at Hw Hn Hs Ho hlen hN
  go_enter Try.func31, Try.ntmps31
  go_wp2_with (fail)
  refine hN.out.mono ?_
  rintro e w1 ⟨rfl, hR1, hg1⟩
  have c1 := hR1.c1
  by_cases he : r1.e = 0
  · rw [he] at c1
    have f1 := hR1.f 1
    by_cases hn : n < 0
    · as_aux_lemma =>
      have HT := Lib.hid (Hn.out he hn)
      have HS := hR1.set1 11
      go_wp2
      go_ret
      injection HT.out with H1 H2
      exact ⟨by rw [H1]; rfl, by rw [H2]; exact HS, grown_trans hg1 (grown_set _ _ _ _)⟩
    · by_cases hs : (r1.l.length : Int) < n
      · as_aux_lemma =>
        have HT := Lib.hid (Hs.out he (by omega) (by omega))
        have c0 := hR1.c0
        have hz := bs_size r1.l
        have HS := hR1.set1 10
        go_wp2
        go_ret
        injection HT.out with H1 H2
        exact ⟨by rw [H1]; rfl, by rw [H2]; exact HS, grown_trans hg1 (grown_set _ _ _ _)⟩
      · as_aux_lemma =>
        have HT := Lib.hid (Ho.out he (by omega) (by omega))
        have c0 := hR1.c0
        have f0 := hR1.f 0
        have hz := bs_size r1.l
        have HS := hR1.set0 (r1.l.drop n.toNat)
        have hnn : n.toNat ≤ r1.l.length := by omega
        have hni : ((n.toNat : Nat) : Int) = n := by omega
        obtain ⟨m, rfl⟩ : ∃ m : Nat, n = (m : Int) := ⟨n.toNat, hni.symm⟩
        simp only [Int.toNat_natCast] at *
        have HE : Hid ((bs r1.l).extract m r1.l.length = bs (r1.l.drop m)) := by
          show _ = _
          rw [bs_extract, List.take_of_length_le (by rw [List.length_drop]; omega)]
        have HE2 : Hid ((bs r1.l).extract 0 m = bs (r1.l.take m)) := by
          show _ = _
          rw [bs_extract]; simp
        go_wp2
        go_ret
        injection HT.out with H1 H2
        refine ⟨?_, ?_, grown_trans hg1 (grown_set _ _ _ _)⟩
        · rw [H1, ← HE2.out]; rfl
        · rw [H2, HE.out]; rw [he] at HS; exact HS
  · as_aux_lemma =>
    have HT := Lib.hid (Hw.out he)
    have h1 : ((r1.e : Int) == 0) = false := by rw [beq_eq_false_iff_ne]; omega
    go_wp2
    go_ret
    injection HT.out with H1 H2
    exact ⟨by rw [H1]; rfl, by rw [H2]; exact hR1, hg1⟩

set_option maxRecDepth 100000 in
set_option maxHeartbeats 1600000 in
theorem refListRead_any (b : Nat) (r : Rd) (w : World) (h : RdAt 43 b r w) (hl : r.l.length ≤ 9223372036854775807) :
    Calls Try.prog 32 #[.pointer (some ⟨b, 0, none⟩)] w fun e w' => ListSaid 43 b r w e w' := by
  obtain ⟨i5, hi, hz0, hz1, hz2⟩ := info_parts infoStr
  have Hw := Lib.hid (listR_w r)
  have Hn := Lib.hid (listR_n r)
  have Ho := Lib.hid (listR_o r)
  have hlen := numR_len r
  have hN := Lib.hid (refNum_any b r w h hl)
  have hblt := h.lt
  unfold ListSaid
  generalize listR r = lr at *
  generalize numR r = nr at *
  obtain ⟨n, r1⟩ := nr
  simp only at Hw Hn Ho hlen hN
  go_enter Try.func32, Try.ntmps32
  go_wp2_with (fail)
  refine hN.out.mono ?_
  rintro e w1 ⟨rfl, hR1, hg1⟩
  have c1 := hR1.c1
  by_cases he : r1.e = 0
  · rw [he] at c1
    have f1 := hR1.f 1
    by_cases hn : n < 0 ∨ 10000 < n
    · have HT := Lib.hid (Hn.out he hn)
      have HS := hR1.set1 11
      have HN := Lib.hid hn
      clear hn
      by_cases hn0 : n < 0
      · as_aux_lemma =>
        go_wp2
        go_ret
        rw [HT.out]
        exact ⟨none, 0, rfl, strs_none _, by simp, HS, grown_trans hg1 (grown_set _ _ _ _), by simp⟩
      · as_aux_lemma =>
        have hn1 : 10000 < n := by have := HN.out; omega
        go_wp2
        go_ret
        rw [HT.out]
        exact ⟨none, 0, rfl, strs_none _, by simp, HS, grown_trans hg1 (grown_set _ _ _ _), by simp⟩
    · have hn0 : 0 ≤ n := by omega
      have hn1 : n ≤ 10000 := by omega
      clear hn
      have HT := Lib.hid (Ho.out he hn0 hn1)
      obtain ⟨m, rfl⟩ : ∃ m : Nat, n = (m : Int) := ⟨n.toNat, by omega⟩
      simp only [Int.toNat_natCast] at HT
      clear Ho Hw Hn
      go_wp2
      go_loopw [4, 5] (fun v vi wr => ∃ (i : Nat) (D : List (List UInt8)) (rr : Rd), vi = .int .i64 i ∧ i ≤ m ∧ D.length = i ∧ rr.e = 0 ∧ rr.l.length ≤ 9223372036854775807 ∧ RdAt 43 b rr wr ∧ w.grownBy wr (some b) ∧ wr.ownsRow w.heap.size 9 1 v D.length (D.map str) ∧ textsR m [] r1 = textsR (m - i) D rr) (fun _ vi _ => m - (intOf vi).toNat)
      case atStart => exact ⟨0, [], r1, rfl, by omega, rfl, he, by omega, hR1, hg1, World.ownsRow_nil _ _ _ _, rfl⟩
      case round =>
        obtain ⟨i, D, rr, rfl, him, hDi, hre, hrl, hRr, hgr, hown, hts⟩ := hrel
        have HTS := Lib.hid hts
        have HRE := Lib.hid hre
        have HD := Lib.hid hDi
        have hDm : D.length ≤ m := by omega
        clear hts hre hDi
        by_cases hlt : i < m
        · obtain ⟨k, hk⟩ : ∃ k, m - i = k + 1 := ⟨m - i - 1, by omega⟩
          have HK := Lib.hid hk
          clear hk
          have HX := Lib.hid (refText_any b rr wr hRr hrl)
          have hS := Lib.hid (textsR_stop k D rr)
          have hG := Lib.hid (textsR_go k D rr)
          have htl := textR_len rr
          generalize htr : textR rr = tr at *
          obtain ⟨s, r2⟩ := tr
          simp only at HX hS hG htl
          go_wp2_with (fail)
          refine HX.out.mono ?_
          rintro e w3 ⟨rfl, hR3, hg3⟩
          have hown3 : w3.ownsRow w.heap.size 9 1 _ D.length (D.map str) := own_grown hown hg3 (fun e => by have := own_base hown b e; omega)
          have hgw3 := grown_trans hgr hg3
          have hobs := own_base hown
          clear hown hg3 hRr htr
          go_wp2_with (at_builtin; refine wpList_append_own _ rfl _ _ 22 rfl w.heap.size 9 i5 (.string ⟨#[]⟩) 1 16 Try.underlying22 hi hz0 hz1 hz2 rfl (by decide) _ _ _ rfl (hown3.alloc _) ⟨w3.heap.size, 0, none⟩ 1 1 [str s] rfl rfl (new_cells w3 _ 9) (by intro x hx; simp at hx; subst hx; rfl) (by unfold maxLen; omega) (by omega) (by have := hgw3.size; simp; omega) ?_)
          intro v' w4 hown4 hgr4 _
          have hown5 : w4.ownsRow w.heap.size 9 1 v' (D ++ [s]).length ((D ++ [s]).map str) := by
            simpa using hown4
          have hR4 : RdAt 43 b r2 w4 := RdAt.grown (RdAt.grown hR3 (grown_alloc _ _ none) (by simp)) hgr4 (fun e => by have := hobs b e.symm; omega)
          have hgw4 : w.grownBy w4 (some b) := grown_own (grown_trans hgw3 (grown_alloc _ _ _)) hgr4 hobs
          clear hown4 hgr4 hR3 hgw3 hobs
          have c1 := hR4.c1
          by_cases he2 : r2.e = 0
          · as_aux_lemma =>
            rw [he2] at c1
            have HE2 := Lib.hid he2
            clear he2
            go_wp2
            go_roundw
            case rel =>
              refine ⟨i + 1, D ++ [s], r2, by go_num, by omega, by simp [HD.out], HE2.out, by omega, hR4, hgw4, hown5, ?_⟩
              rw [HTS.out, HK.out, hG.out HE2.out]
              congr 1
              have := HK.out
              omega
            case measure => simp [intOf]; omega
          · as_aux_lemma =>
            have HE2 := Lib.hid he2
            have h1 : ((r2.e : Int) == 0) = false := by rw [beq_eq_false_iff_ne]; omega
            clear he2
            go_wp2
            go_ret
            rw [HT.out, HTS.out, HK.out, hS.out HE2.out]
            exact ⟨none, 0, rfl, strs_none _, by simp, hR4, hgw4, by simp⟩
        · as_aux_lemma =>
          obtain rfl : i = m := by omega
          have hfin : textsR i [] r1 = (D, rr) := by rw [HTS.out, Nat.sub_self]; rfl
          have HFIN := Lib.hid hfin
          clear hfin
          have hst := strs_own hown
          have hob := own_base hown
          obtain ⟨a, cap, rfl⟩ : ∃ a cap, u4 = .slice a D.length cap := by
            rcases hown.2 with ⟨hv, h0⟩ | ⟨g, cap, cur, hv, _⟩
            · exact ⟨none, 0, by rw [hv, h0]⟩
            · exact ⟨_, _, hv⟩
          have hD2 : D.length ≤ 10000 := by omega
          go_wp2
          go_ret
          rw [HT.out, HFIN.out]
          exact ⟨a, cap, rfl, hst, hD2, hRr, hgr, fun p hp => hob p.block (by rw [hp]; rfl)⟩
  · as_aux_lemma =>
    have HT := Lib.hid (Hw.out he)
    have h1 : ((r1.e : Int) == 0) = false := by rw [beq_eq_false_iff_ne]; omega
    go_wp2
    go_ret
    rw [HT.out]
    exact ⟨none, 0, rfl, strs_none _, by simp, hR1, hg1, by simp⟩
end Go.Proofs.Ytlbacddgjagcbaa
