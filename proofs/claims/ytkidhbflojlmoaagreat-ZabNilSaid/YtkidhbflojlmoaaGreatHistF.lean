/- The walk of hist.Find. Conditions: as each theorem says. -/
import Derived.Test.YtkidhbflojlmoaaGreatHistW
namespace Go.Proofs.YtkidhbflojlmoaaGreat
open Go.RowKit

theorem findB_of (L : List Ent) (t : Int × Int) (k : Nat) (hk : findN L t = k + 1) (hi : k < L.length) : findB L t = decide (L[k].z = t) := by
  unfold findB
  rw [hk]
  simp [List.getD, hi]
theorem findB_none (L : List Ent) (t : Int × Int) (hk : findN L t = 0) : findB L t = false := by
  unfold findB
  rw [hk]; rfl
set_option maxRecDepth 100000 in
set_option maxHeartbeats 800000 in
theorem find_any (L : List Ent) (a : Option Addr) (cap : Nat) (t : Int × Int) (w : World) (hL : EntsAt w (.slice a L.length cap) L) (hn : L.length ≤ 9223372036854775807) :
    Calls Tryz.prog 45 #[.slice a L.length cap, zxidV t] w fun e w' => e = .returned (.tuple #[.int .i64 (findN L t : Int), .bool (findB L t)]) ∧ Below w.heap.size w w' := by
  have HI := Lib.hid (index_at L a cap t w hL hn)
  have hfl := findN_le L t
  have HN := Lib.hid (idxV_neg L t)
  have HP := Lib.hid (idxV_pos L t)
  unfold zxidV
  go_enter Tryz.func45, Tryz.ntmps45
  go_wp2_with (fail)
  refine HI.out.mono ?_
  rintro e w2 ⟨rfl, hb2, c0, c1⟩
  clear HI
  by_cases h0 : findN L t = 0
  · have HB : Hid (findB L t = false) := findB_none L t h0
    have HK := Lib.hid h0
    by_cases hx : findN L t < L.length
    · as_aux_lemma =>
      rw [HP.out hx, h0]
      clear hx h0 hfl
      go_wp2
      go_region
      go_wp2
      go_ret2
      exact ⟨by rw [HB.out, HK.out]; rfl, by first | exact hb2.drew | exact hb2⟩
    · as_aux_lemma =>
      rw [HN.out hx]
      have hl0 : L.length = 0 := by omega
      rw [hl0]
      clear hx h0 hfl hl0 hL hn HN HP
      go_wp2
      go_region
      go_wp2
      go_ret2
      exact ⟨by rw [HB.out, HK.out]; rfl, by first | exact hb2.drew | exact hb2⟩
  · obtain ⟨k, hk⟩ : ∃ k, findN L t = k + 1 := ⟨findN L t - 1, by omega⟩
    have HK := Lib.hid hk
    have hi : k < L.length := by omega
    obtain ⟨bb, off, rfl, hcell⟩ := ents_get (hL.grew hb2) k hi
    obtain ⟨d0, d1, d2⟩ := hcell
    by_cases hx : findN L t < L.length
    · rw [HP.out hx, hk]
      have hi2 : k + 1 < L.length := by omega
      clear hx h0 hfl hk HP HN hL
      by_cases q0 : L[k].e = t.1
      · by_cases q1 : L[k].c = t.2
        · as_aux_lemma =>
          have HB : Hid (findB L t = true) := by
            show _ = _
            rw [findB_of L t k HK.out hi]; exact decide_eq_true (Prod.ext q0 q1)
          have b0 : (L[k].e == t.1) = true := by rw [beq_iff_eq]; exact q0
          have b1 : (L[k].c == t.2) = true := by rw [beq_iff_eq]; exact q1
          clear q0 q1
          go_wp2
          go_region
          go_wp2
          go_ret2
          exact ⟨by rw [HB.out, HK.out]; rfl, by first | exact hb2.drew | exact hb2⟩
        · as_aux_lemma =>
          have HB : Hid (findB L t = false) := by
            show _ = _
            rw [findB_of L t k HK.out hi]; exact decide_eq_false (fun h => q1 (congrArg Prod.snd h))
          have b0 : (L[k].e == t.1) = true := by rw [beq_iff_eq]; exact q0
          have b1 : (L[k].c == t.2) = false := by rw [beq_eq_false_iff_ne]; exact q1
          clear q0 q1
          go_wp2
          go_region
          go_wp2
          go_ret2
          exact ⟨by rw [HB.out, HK.out]; rfl, by first | exact hb2.drew | exact hb2⟩
      · as_aux_lemma =>
        have HB : Hid (findB L t = false) := by
          show _ = _
          rw [findB_of L t k HK.out hi]; exact decide_eq_false (fun h => q0 (congrArg Prod.fst h))
        have b0 : (L[k].e == t.1) = false := by rw [beq_eq_false_iff_ne]; exact q0
        clear q0
        go_wp2
        go_region
        go_wp2
        go_ret2
        exact ⟨by rw [HB.out, HK.out]; rfl, by first | exact hb2.drew | exact hb2⟩
    · rw [HN.out hx]
      have hi2 : L.length ≤ k + 1 := by omega
      have hi3 : L.length = k + 1 := by omega
      have hi4 : k + 1 ≤ 9223372036854775807 := by omega
      rw [hi3]
      clear hx h0 hfl hk HP HN hL hi2 hi3 hn
      by_cases q0 : L[k].e = t.1
      · by_cases q1 : L[k].c = t.2
        · as_aux_lemma =>
          have HB : Hid (findB L t = true) := by
            show _ = _
            rw [findB_of L t k HK.out hi]; exact decide_eq_true (Prod.ext q0 q1)
          have b0 : (L[k].e == t.1) = true := by rw [beq_iff_eq]; exact q0
          have b1 : (L[k].c == t.2) = true := by rw [beq_iff_eq]; exact q1
          clear q0 q1
          go_wp2
          go_region
          go_wp2
          go_ret2
          exact ⟨by rw [HB.out, HK.out]; rfl, by first | exact hb2.drew | exact hb2⟩
        · as_aux_lemma =>
          have HB : Hid (findB L t = false) := by
            show _ = _
            rw [findB_of L t k HK.out hi]; exact decide_eq_false (fun h => q1 (congrArg Prod.snd h))
          have b0 : (L[k].e == t.1) = true := by rw [beq_iff_eq]; exact q0
          have b1 : (L[k].c == t.2) = false := by rw [beq_eq_false_iff_ne]; exact q1
          clear q0 q1
          go_wp2
          go_region
          go_wp2
          go_ret2
          exact ⟨by rw [HB.out, HK.out]; rfl, by first | exact hb2.drew | exact hb2⟩
      · as_aux_lemma =>
        have HB : Hid (findB L t = false) := by
          show _ = _
          rw [findB_of L t k HK.out hi]; exact decide_eq_false (fun h => q0 (congrArg Prod.fst h))
        have b0 : (L[k].e == t.1) = false := by rw [beq_eq_false_iff_ne]; exact q0
        clear q0
        go_wp2
        go_region
        go_wp2
        go_ret2
        exact ⟨by rw [HB.out, HK.out]; rfl, by first | exact hb2.drew | exact hb2⟩
end Go.Proofs.YtkidhbflojlmoaaGreat
