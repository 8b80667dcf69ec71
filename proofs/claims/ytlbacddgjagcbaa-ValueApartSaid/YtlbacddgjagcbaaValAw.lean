/- The law ValueApart. Conditions: as each theorem says. -/
import Derived.Test.YtlbacddgjagcbaaValAp
namespace Go.Proofs.Ytlbacddgjagcbaa
open Go.RowKit

set_option maxRecDepth 100000 in
set_option maxHeartbeats 16000000 in
/-- THE LAW. -/
theorem valueApart_walk (w : World) (v0 v1 : Value) (h0 : IsMsg w v0) (h1 : IsMsg w v1) :
    Calls Try.prog 11 #[v0, v1] w fun e w' => e = .returned (.bool true) ∧ Below w.heap.size w w' := by
  obtain ⟨m1, a1, cap1, rfl, hE1, hm1⟩ := h0
  obtain ⟨m2, a2, cap2, rfl, hE2, hm2⟩ := h1
  have HF1 : Hid (∀ X, EntsIn X a1 cap1 m1.ents → Calls Try.prog 34 #[msgV m1 a1 cap1] X fun e w' => e = .returned (.bool (fewM m1)) ∧ Below X.heap.size X w') := fun X hX => fewM_any m1 a1 cap1 X hX hm1
  have HF2 : Hid (∀ X, EntsIn X a2 cap2 m2.ents → Calls Try.prog 34 #[msgV m2 a2 cap2] X fun e w' => e = .returned (.bool (fewM m2)) ∧ Below X.heap.size X w') := fun X hX => fewM_any m2 a2 cap2 X hX hm2
  have HO1' : Hid (∀ X, fewM m1 = true → EntsIn X a1 cap1 m1.ents → Calls Try.prog 36 #[msgV m1 a1 cap1] X fun e w' => OfSaid m1 X e w') := fun X hf hX => of_any m1 a1 cap1 X hX hm1 hf
  have HO2' : Hid (∀ X, fewM m2 = true → EntsIn X a2 cap2 m2.ents → Calls Try.prog 36 #[msgV m2 a2 cap2] X fun e w' => OfSaid m2 X e w') := fun X hf hX => of_any m2 a2 cap2 X hX hm2 hf
  have HOK1 := Lib.hid (fun hf => ofM_ok m1 hm1 hf hE1.2.2.2)
  have HOK2 := Lib.hid (fun hf => ofM_ok m2 hm2 hf hE2.2.2.2)
  have HWk := Lib.hid (fun X => wake_any X)
  unfold OfSaid at HO1' HO2'
  obtain ⟨ty1, ld1, ⟨zp1, zq1⟩, ep1, own1, ⟨fp1, fq1⟩, rnd1, st1, kd1, body1, ents1, flag1, node1, cli1, seq1⟩ := m1
  obtain ⟨ty2, ld2, ⟨zp2, zq2⟩, ep2, own2, ⟨fp2, fq2⟩, rnd2, st2, kd2, body2, ents2, flag2, node2, cli2, seq2⟩ := m2
  simp only at hE1 hE2
  unfold msgV msgCells at HF1 HF2 HO1' HO2' ⊢
  simp only at HF1 HF2 HO1' HO2' ⊢
  obtain ⟨W0, hW0⟩ : ∃ X, X = w.alloc (.cells #[.int .i64 ty1, .int .i64 ld1, .int .i64 zp1, .int .i64 zq1, .int .i64 ep1, .int .i64 own1, .int .i64 fp1, .int .i64 fq1, .int .i64 rnd1, .int .i64 st1, .int .i64 kd1, .string (bs body1), .slice a1 ents1.length cap1, .bool flag1, .int .i64 node1, .int .i64 cli1, .int .i64 seq1] 51) := ⟨_, rfl⟩
  have hk1 : W0.heap[w.heap.size]? = some (.cells #[.int .i64 ty1, .int .i64 ld1, .int .i64 zp1, .int .i64 zq1, .int .i64 ep1, .int .i64 own1, .int .i64 fp1, .int .i64 fq1, .int .i64 rnd1, .int .i64 st1, .int .i64 kd1, .string (bs body1), .slice a1 ents1.length cap1, .bool flag1, .int .i64 node1, .int .i64 cli1, .int .i64 seq1] 51 (0, 0)) := by rw [hW0]; exact heap_alloc_new w _
  have hB0 : Below w.heap.size w W0 := by rw [hW0]; exact alloc_below w _
  have hz : W0.heap.size = w.heap.size + 1 := by rw [hW0]; simp
  obtain ⟨W, hW⟩ : ∃ X, X = W0.alloc (.cells #[.int .i64 ty2, .int .i64 ld2, .int .i64 zp2, .int .i64 zq2, .int .i64 ep2, .int .i64 own2, .int .i64 fp2, .int .i64 fq2, .int .i64 rnd2, .int .i64 st2, .int .i64 kd2, .string (bs body2), .slice a2 ents2.length cap2, .bool flag2, .int .i64 node2, .int .i64 cli2, .int .i64 seq2] 51) := ⟨_, rfl⟩
  have hk2 : W.heap[w.heap.size + 1]? = some (.cells #[.int .i64 ty2, .int .i64 ld2, .int .i64 zp2, .int .i64 zq2, .int .i64 ep2, .int .i64 own2, .int .i64 fp2, .int .i64 fq2, .int .i64 rnd2, .int .i64 st2, .int .i64 kd2, .string (bs body2), .slice a2 ents2.length cap2, .bool flag2, .int .i64 node2, .int .i64 cli2, .int .i64 seq2] 51 (0, 0)) := by rw [hW, ← hz]; exact heap_alloc_new W0 _
  have hB1 : Below W0.heap.size W0 W := by rw [hW]; exact alloc_below W0 _
  have hk1 := Grew.at_ hB1 hk1
  have hB := hB0.trans (hB1.mono hB0.size)
  have HE1 := Lib.hid (fun X (hX : Below W.heap.size W X) => (hE1.grew hB).grew hX)
  have HE2 := Lib.hid (fun X (hX : Below W.heap.size W X) => (hE2.grew hB).grew hX)
  have HK1 := Lib.hid (fun X (hX : Below W.heap.size W X) => Grew.at_ hX hk1)
  have HK2 := Lib.hid (fun X (hX : Below W.heap.size W X) => Grew.at_ hX hk2)
  have HW0 := Lib.hid hW0
  have HW := Lib.hid hW
  have HB : Hid (∀ X, Below W.heap.size W X → Below w.heap.size w X) := fun X hX => hB.trans (hX.mono hB.size)
  clear hW0 hW hk1 hk2 hE1 hE2 hm1 hm2 hB0 hB1 hz hB
  go_enter Try.func11, Try.ntmps11
  go_upto_region 1 with (fail)
  rw [← HW0.out, ← HW.out]
  clear HW0 HW
  generalize w.heap.size + 1 = h at *
  generalize hg : w.heap.size = g at *
  have HG := Lib.hid hg
  clear hg
  have hb0 := Below.refl W.heap.size W
  have m1_0 : W.cell? ⟨g, 0, none⟩ = some (.int .i64 ty1) := by rw [Lib.cell_of_heap (HK1.out _ hb0)]; rfl
  have m1_1 : W.cell? ⟨g, 1, none⟩ = some (.int .i64 ld1) := by rw [Lib.cell_of_heap (HK1.out _ hb0)]; rfl
  have m1_2 : W.cell? ⟨g, 2, none⟩ = some (.int .i64 zp1) := by rw [Lib.cell_of_heap (HK1.out _ hb0)]; rfl
  have m1_3 : W.cell? ⟨g, 3, none⟩ = some (.int .i64 zq1) := by rw [Lib.cell_of_heap (HK1.out _ hb0)]; rfl
  have m1_4 : W.cell? ⟨g, 4, none⟩ = some (.int .i64 ep1) := by rw [Lib.cell_of_heap (HK1.out _ hb0)]; rfl
  have m1_5 : W.cell? ⟨g, 5, none⟩ = some (.int .i64 own1) := by rw [Lib.cell_of_heap (HK1.out _ hb0)]; rfl
  have m1_6 : W.cell? ⟨g, 6, none⟩ = some (.int .i64 fp1) := by rw [Lib.cell_of_heap (HK1.out _ hb0)]; rfl
  have m1_7 : W.cell? ⟨g, 7, none⟩ = some (.int .i64 fq1) := by rw [Lib.cell_of_heap (HK1.out _ hb0)]; rfl
  have m1_8 : W.cell? ⟨g, 8, none⟩ = some (.int .i64 rnd1) := by rw [Lib.cell_of_heap (HK1.out _ hb0)]; rfl
  have m1_9 : W.cell? ⟨g, 9, none⟩ = some (.int .i64 st1) := by rw [Lib.cell_of_heap (HK1.out _ hb0)]; rfl
  have m1_10 : W.cell? ⟨g, 10, none⟩ = some (.int .i64 kd1) := by rw [Lib.cell_of_heap (HK1.out _ hb0)]; rfl
  have m1_11 : W.cell? ⟨g, 11, none⟩ = some (.string (bs body1)) := by rw [Lib.cell_of_heap (HK1.out _ hb0)]; rfl
  have m1_12 : W.cell? ⟨g, 12, none⟩ = some (.slice a1 ents1.length cap1) := by rw [Lib.cell_of_heap (HK1.out _ hb0)]; rfl
  have m1_13 : W.cell? ⟨g, 13, none⟩ = some (.bool flag1) := by rw [Lib.cell_of_heap (HK1.out _ hb0)]; rfl
  have m1_14 : W.cell? ⟨g, 14, none⟩ = some (.int .i64 node1) := by rw [Lib.cell_of_heap (HK1.out _ hb0)]; rfl
  have m1_15 : W.cell? ⟨g, 15, none⟩ = some (.int .i64 cli1) := by rw [Lib.cell_of_heap (HK1.out _ hb0)]; rfl
  have m1_16 : W.cell? ⟨g, 16, none⟩ = some (.int .i64 seq1) := by rw [Lib.cell_of_heap (HK1.out _ hb0)]; rfl
  go_wp2_with (fail)
  refine (HF1.out _ (HE1.out _ hb0)).mono ?_
  rintro e w1 ⟨rfl, hb1⟩
  clear HF1 m1_0 m1_1 m1_2 m1_3 m1_4 m1_5 m1_6 m1_7 m1_8 m1_9 m1_10 m1_11 m1_12 m1_13 m1_14 m1_15 m1_16
  by_cases hf1 : fewM ⟨ty1, ld1, (zp1, zq1), ep1, own1, (fp1, fq1), rnd1, st1, kd1, body1, ents1, flag1, node1, cli1, seq1⟩ = true
  case neg =>
    as_aux_lemma =>
    rw [Bool.eq_false_iff.2 hf1]
    clear HK1 HK2 HE1 HE2 HOK1 HOK2 HO1' HO2' hf1 HF2
    go_wp2_with (fail)
    refine (HWk.out _).mono ?_
    rintro e w2 ⟨rfl, hb2⟩
    go_wp2
    go_ret
    exact ⟨rfl, by rw [HG.out]; exact HB.out _ (hb1.trans (hb2.mono hb1.size))⟩
  rw [hf1]
  as_aux_lemma =>
  have m2_0 : w1.cell? ⟨h, 0, none⟩ = some (.int .i64 ty2) := by rw [Lib.cell_of_heap (HK2.out _ hb1)]; rfl
  have m2_1 : w1.cell? ⟨h, 1, none⟩ = some (.int .i64 ld2) := by rw [Lib.cell_of_heap (HK2.out _ hb1)]; rfl
  have m2_2 : w1.cell? ⟨h, 2, none⟩ = some (.int .i64 zp2) := by rw [Lib.cell_of_heap (HK2.out _ hb1)]; rfl
  have m2_3 : w1.cell? ⟨h, 3, none⟩ = some (.int .i64 zq2) := by rw [Lib.cell_of_heap (HK2.out _ hb1)]; rfl
  have m2_4 : w1.cell? ⟨h, 4, none⟩ = some (.int .i64 ep2) := by rw [Lib.cell_of_heap (HK2.out _ hb1)]; rfl
  have m2_5 : w1.cell? ⟨h, 5, none⟩ = some (.int .i64 own2) := by rw [Lib.cell_of_heap (HK2.out _ hb1)]; rfl
  have m2_6 : w1.cell? ⟨h, 6, none⟩ = some (.int .i64 fp2) := by rw [Lib.cell_of_heap (HK2.out _ hb1)]; rfl
  have m2_7 : w1.cell? ⟨h, 7, none⟩ = some (.int .i64 fq2) := by rw [Lib.cell_of_heap (HK2.out _ hb1)]; rfl
  have m2_8 : w1.cell? ⟨h, 8, none⟩ = some (.int .i64 rnd2) := by rw [Lib.cell_of_heap (HK2.out _ hb1)]; rfl
  have m2_9 : w1.cell? ⟨h, 9, none⟩ = some (.int .i64 st2) := by rw [Lib.cell_of_heap (HK2.out _ hb1)]; rfl
  have m2_10 : w1.cell? ⟨h, 10, none⟩ = some (.int .i64 kd2) := by rw [Lib.cell_of_heap (HK2.out _ hb1)]; rfl
  have m2_11 : w1.cell? ⟨h, 11, none⟩ = some (.string (bs body2)) := by rw [Lib.cell_of_heap (HK2.out _ hb1)]; rfl
  have m2_12 : w1.cell? ⟨h, 12, none⟩ = some (.slice a2 ents2.length cap2) := by rw [Lib.cell_of_heap (HK2.out _ hb1)]; rfl
  have m2_13 : w1.cell? ⟨h, 13, none⟩ = some (.bool flag2) := by rw [Lib.cell_of_heap (HK2.out _ hb1)]; rfl
  have m2_14 : w1.cell? ⟨h, 14, none⟩ = some (.int .i64 node2) := by rw [Lib.cell_of_heap (HK2.out _ hb1)]; rfl
  have m2_15 : w1.cell? ⟨h, 15, none⟩ = some (.int .i64 cli2) := by rw [Lib.cell_of_heap (HK2.out _ hb1)]; rfl
  have m2_16 : w1.cell? ⟨h, 16, none⟩ = some (.int .i64 seq2) := by rw [Lib.cell_of_heap (HK2.out _ hb1)]; rfl
  go_wp2_with (fail)
  refine (HF2.out _ (HE2.out _ hb1)).mono ?_
  rintro e w2 ⟨rfl, hx2⟩
  have hb2 := hb1.trans (hx2.mono hb1.size)
  clear HF2 hx2 m2_0 m2_1 m2_2 m2_3 m2_4 m2_5 m2_6 m2_7 m2_8 m2_9 m2_10 m2_11 m2_12 m2_13 m2_14 m2_15 m2_16
  by_cases hf2 : fewM ⟨ty2, ld2, (zp2, zq2), ep2, own2, (fp2, fq2), rnd2, st2, kd2, body2, ents2, flag2, node2, cli2, seq2⟩ = true
  case neg =>
    as_aux_lemma =>
    rw [Bool.eq_false_iff.2 hf2]
    clear HK1 HK2 HE1 HE2 HOK1 HOK2 HO1' HO2' hf1 hf2
    go_wp2_with (fail)
    refine (HWk.out _).mono ?_
    rintro e w3 ⟨rfl, hb3⟩
    go_wp2
    go_ret
    exact ⟨rfl, by rw [HG.out]; exact HB.out _ (hb2.trans (hb3.mono hb2.size))⟩
  rw [hf2]
  as_aux_lemma =>
  have hok1 := HOK1.out hf1
  have hok2 := HOK2.out hf2
  have HO1 := Lib.hid (fun X hX => HO1'.out X hf1 (HE1.out X hX))
  have HO2 := Lib.hid (fun X hX => HO2'.out X hf2 (HE2.out X hX))
  clear HOK1 HOK2 HO1' HO2' hf1 hf2 HE1 HE2
  generalize ofM ⟨ty1, ld1, (zp1, zq1), ep1, own1, (fp1, fq1), rnd1, st1, kd1, body1, ents1, flag1, node1, cli1, seq1⟩ = x at *
  generalize ofM ⟨ty2, ld2, (zp2, zq2), ep2, own2, (fp2, fq2), rnd2, st2, kd2, body2, ents2, flag2, node2, cli2, seq2⟩ = y at *
  have HEn1 := Lib.hid (fun v X hX => enc_any x v hok1 X hX)
  have HEn2 := Lib.hid (fun v X hX => enc_any y v hok2 X hX)
  have HP1 := Lib.hid (fun v X hX => plain_all x v hok1 X hX)
  have HP2 := Lib.hid (fun v X hX => plain_all y v hok2 X hX)
  have HS := Lib.hid (fun aA cA aB cB X hA hB => sameM_any (plM x) (plM y) aA aB cA cB X hA hB)
  have HLaw := Lib.hid (fun e1 e2 => apart_law x y hok1 hok2 e1 e2)
  unfold EncSaid at HEn1 HEn2
  unfold PlainAt at HP1 HP2
  generalize encMv x = S1 at *
  generalize encMv y = S2 at *
  generalize errMv x = k1 at *
  generalize errMv y = k2 at *
  generalize decide (plM x = plM y) = D at *
  clear hok1 hok2
  have m1_0 : w2.cell? ⟨g, 0, none⟩ = some (.int .i64 ty1) := by rw [Lib.cell_of_heap (HK1.out _ hb2)]; rfl
  have m1_1 : w2.cell? ⟨g, 1, none⟩ = some (.int .i64 ld1) := by rw [Lib.cell_of_heap (HK1.out _ hb2)]; rfl
  have m1_2 : w2.cell? ⟨g, 2, none⟩ = some (.int .i64 zp1) := by rw [Lib.cell_of_heap (HK1.out _ hb2)]; rfl
  have m1_3 : w2.cell? ⟨g, 3, none⟩ = some (.int .i64 zq1) := by rw [Lib.cell_of_heap (HK1.out _ hb2)]; rfl
  have m1_4 : w2.cell? ⟨g, 4, none⟩ = some (.int .i64 ep1) := by rw [Lib.cell_of_heap (HK1.out _ hb2)]; rfl
  have m1_5 : w2.cell? ⟨g, 5, none⟩ = some (.int .i64 own1) := by rw [Lib.cell_of_heap (HK1.out _ hb2)]; rfl
  have m1_6 : w2.cell? ⟨g, 6, none⟩ = some (.int .i64 fp1) := by rw [Lib.cell_of_heap (HK1.out _ hb2)]; rfl
  have m1_7 : w2.cell? ⟨g, 7, none⟩ = some (.int .i64 fq1) := by rw [Lib.cell_of_heap (HK1.out _ hb2)]; rfl
  have m1_8 : w2.cell? ⟨g, 8, none⟩ = some (.int .i64 rnd1) := by rw [Lib.cell_of_heap (HK1.out _ hb2)]; rfl
  have m1_9 : w2.cell? ⟨g, 9, none⟩ = some (.int .i64 st1) := by rw [Lib.cell_of_heap (HK1.out _ hb2)]; rfl
  have m1_10 : w2.cell? ⟨g, 10, none⟩ = some (.int .i64 kd1) := by rw [Lib.cell_of_heap (HK1.out _ hb2)]; rfl
  have m1_11 : w2.cell? ⟨g, 11, none⟩ = some (.string (bs body1)) := by rw [Lib.cell_of_heap (HK1.out _ hb2)]; rfl
  have m1_12 : w2.cell? ⟨g, 12, none⟩ = some (.slice a1 ents1.length cap1) := by rw [Lib.cell_of_heap (HK1.out _ hb2)]; rfl
  have m1_13 : w2.cell? ⟨g, 13, none⟩ = some (.bool flag1) := by rw [Lib.cell_of_heap (HK1.out _ hb2)]; rfl
  have m1_14 : w2.cell? ⟨g, 14, none⟩ = some (.int .i64 node1) := by rw [Lib.cell_of_heap (HK1.out _ hb2)]; rfl
  have m1_15 : w2.cell? ⟨g, 15, none⟩ = some (.int .i64 cli1) := by rw [Lib.cell_of_heap (HK1.out _ hb2)]; rfl
  have m1_16 : w2.cell? ⟨g, 16, none⟩ = some (.int .i64 seq1) := by rw [Lib.cell_of_heap (HK1.out _ hb2)]; rfl
  go_wp2_with (fail)
  refine (HO1.out _ hb2).mono ?_
  rintro e w3 ⟨v1, rfl, hv1, hx3⟩
  clear m1_0 m1_1 m1_2 m1_3 m1_4 m1_5 m1_6 m1_7 m1_8 m1_9 m1_10 m1_11 m1_12 m1_13 m1_14 m1_15 m1_16
  go_wp2_with (fail)
  refine (HEn1.out _ _ hv1).mono ?_
  rintro e w4 ⟨rfl, hx4⟩
  have hb4 := hb2.trans ((hx3.trans (hx4.mono hx3.size)).mono hb2.size)
  clear hv1 hx3 hx4
  as_aux_lemma =>
  have m2_0 : w4.cell? ⟨h, 0, none⟩ = some (.int .i64 ty2) := by rw [Lib.cell_of_heap (HK2.out _ hb4)]; rfl
  have m2_1 : w4.cell? ⟨h, 1, none⟩ = some (.int .i64 ld2) := by rw [Lib.cell_of_heap (HK2.out _ hb4)]; rfl
  have m2_2 : w4.cell? ⟨h, 2, none⟩ = some (.int .i64 zp2) := by rw [Lib.cell_of_heap (HK2.out _ hb4)]; rfl
  have m2_3 : w4.cell? ⟨h, 3, none⟩ = some (.int .i64 zq2) := by rw [Lib.cell_of_heap (HK2.out _ hb4)]; rfl
  have m2_4 : w4.cell? ⟨h, 4, none⟩ = some (.int .i64 ep2) := by rw [Lib.cell_of_heap (HK2.out _ hb4)]; rfl
  have m2_5 : w4.cell? ⟨h, 5, none⟩ = some (.int .i64 own2) := by rw [Lib.cell_of_heap (HK2.out _ hb4)]; rfl
  have m2_6 : w4.cell? ⟨h, 6, none⟩ = some (.int .i64 fp2) := by rw [Lib.cell_of_heap (HK2.out _ hb4)]; rfl
  have m2_7 : w4.cell? ⟨h, 7, none⟩ = some (.int .i64 fq2) := by rw [Lib.cell_of_heap (HK2.out _ hb4)]; rfl
  have m2_8 : w4.cell? ⟨h, 8, none⟩ = some (.int .i64 rnd2) := by rw [Lib.cell_of_heap (HK2.out _ hb4)]; rfl
  have m2_9 : w4.cell? ⟨h, 9, none⟩ = some (.int .i64 st2) := by rw [Lib.cell_of_heap (HK2.out _ hb4)]; rfl
  have m2_10 : w4.cell? ⟨h, 10, none⟩ = some (.int .i64 kd2) := by rw [Lib.cell_of_heap (HK2.out _ hb4)]; rfl
  have m2_11 : w4.cell? ⟨h, 11, none⟩ = some (.string (bs body2)) := by rw [Lib.cell_of_heap (HK2.out _ hb4)]; rfl
  have m2_12 : w4.cell? ⟨h, 12, none⟩ = some (.slice a2 ents2.length cap2) := by rw [Lib.cell_of_heap (HK2.out _ hb4)]; rfl
  have m2_13 : w4.cell? ⟨h, 13, none⟩ = some (.bool flag2) := by rw [Lib.cell_of_heap (HK2.out _ hb4)]; rfl
  have m2_14 : w4.cell? ⟨h, 14, none⟩ = some (.int .i64 node2) := by rw [Lib.cell_of_heap (HK2.out _ hb4)]; rfl
  have m2_15 : w4.cell? ⟨h, 15, none⟩ = some (.int .i64 cli2) := by rw [Lib.cell_of_heap (HK2.out _ hb4)]; rfl
  have m2_16 : w4.cell? ⟨h, 16, none⟩ = some (.int .i64 seq2) := by rw [Lib.cell_of_heap (HK2.out _ hb4)]; rfl
  go_wp2_with (fail)
  refine (HO2.out _ hb4).mono ?_
  rintro e w5 ⟨v2, rfl, hv2, hx5⟩
  clear m2_0 m2_1 m2_2 m2_3 m2_4 m2_5 m2_6 m2_7 m2_8 m2_9 m2_10 m2_11 m2_12 m2_13 m2_14 m2_15 m2_16
  go_wp2_with (fail)
  refine (HEn2.out _ _ hv2).mono ?_
  rintro e w6 ⟨rfl, hx6⟩
  have hb6 := hb4.trans ((hx5.trans (hx6.mono hx5.size)).mono hb4.size)
  clear hv2 hx5 hx6 hb0 hb1 hb2 hb4 HEn1 HEn2
  as_aux_lemma =>
  go_upto_region 5 with (fail)
  by_cases hk1 : k1 = 0
  case neg =>
    as_aux_lemma =>
    have t1 : ((k1 : Int) != 0) = true := by rw [bne_iff_ne]; omega
    have t2 : ((k1 : Int) == 0) = false := beq_eq_false_iff_ne.2 (by omega)
    clear hk1 HLaw HS HP1 HP2 HO1 HO2
    have hex := Grew.all w6
    refine wp_region_grew (by kernel_rfl) (by kernel_rfl) ?_
    repeat (first | go_big_quiet_skip | (go_big_quiet_want; go_big_quiet_op; first | go_big_quiet_on | (apply Exists.intro; refine ⟨fun W hW => ?_, ?_⟩; (first | (go_at_call 35; with_reducible exact Calls.grew hW (HWk.out _))); go_big_quiet_on)))
    refine wpQuiet_nil ?_
    intro w7 hw7
    have hb7 : Below W.heap.size W w7 := hb6.trans (Below.mono (show Below w6.heap.size w6 w7 from hw7) hb6.size)
    clear hex
    go_wp2
    go_ret
    exact ⟨rfl, by rw [HG.out]; exact HB.out _ hb7⟩
  subst hk1
  by_cases hk2 : k2 = 0
  case neg =>
    as_aux_lemma =>
    have t1 : ((k2 : Int) != 0) = true := by rw [bne_iff_ne]; omega
    have t2 : ((k2 : Int) == 0) = false := beq_eq_false_iff_ne.2 (by omega)
    clear hk2 HLaw HS HP1 HP2 HO1 HO2
    have hex := Grew.all w6
    refine wp_region_grew (by kernel_rfl) (by kernel_rfl) ?_
    repeat (first | go_big_quiet_skip | (go_big_quiet_want; go_big_quiet_op; first | go_big_quiet_on | (apply Exists.intro; refine ⟨fun W hW => ?_, ?_⟩; (first | (go_at_call 35; with_reducible exact Calls.grew hW (HWk.out _))); go_big_quiet_on)))
    refine wpQuiet_nil ?_
    intro w7 hw7
    have hb7 : Below W.heap.size W w7 := hb6.trans (Below.mono (show Below w6.heap.size w6 w7 from hw7) hb6.size)
    clear hex
    go_wp2
    go_ret
    exact ⟨rfl, by rw [HG.out]; exact HB.out _ hb7⟩
  subst hk2
  have hlaw := HLaw.out rfl rfl
  have m1_0 : w6.cell? ⟨g, 0, none⟩ = some (.int .i64 ty1) := by rw [Lib.cell_of_heap (HK1.out _ hb6)]; rfl
  have m1_1 : w6.cell? ⟨g, 1, none⟩ = some (.int .i64 ld1) := by rw [Lib.cell_of_heap (HK1.out _ hb6)]; rfl
  have m1_2 : w6.cell? ⟨g, 2, none⟩ = some (.int .i64 zp1) := by rw [Lib.cell_of_heap (HK1.out _ hb6)]; rfl
  have m1_3 : w6.cell? ⟨g, 3, none⟩ = some (.int .i64 zq1) := by rw [Lib.cell_of_heap (HK1.out _ hb6)]; rfl
  have m1_4 : w6.cell? ⟨g, 4, none⟩ = some (.int .i64 ep1) := by rw [Lib.cell_of_heap (HK1.out _ hb6)]; rfl
  have m1_5 : w6.cell? ⟨g, 5, none⟩ = some (.int .i64 own1) := by rw [Lib.cell_of_heap (HK1.out _ hb6)]; rfl
  have m1_6 : w6.cell? ⟨g, 6, none⟩ = some (.int .i64 fp1) := by rw [Lib.cell_of_heap (HK1.out _ hb6)]; rfl
  have m1_7 : w6.cell? ⟨g, 7, none⟩ = some (.int .i64 fq1) := by rw [Lib.cell_of_heap (HK1.out _ hb6)]; rfl
  have m1_8 : w6.cell? ⟨g, 8, none⟩ = some (.int .i64 rnd1) := by rw [Lib.cell_of_heap (HK1.out _ hb6)]; rfl
  have m1_9 : w6.cell? ⟨g, 9, none⟩ = some (.int .i64 st1) := by rw [Lib.cell_of_heap (HK1.out _ hb6)]; rfl
  have m1_10 : w6.cell? ⟨g, 10, none⟩ = some (.int .i64 kd1) := by rw [Lib.cell_of_heap (HK1.out _ hb6)]; rfl
  have m1_11 : w6.cell? ⟨g, 11, none⟩ = some (.string (bs body1)) := by rw [Lib.cell_of_heap (HK1.out _ hb6)]; rfl
  have m1_12 : w6.cell? ⟨g, 12, none⟩ = some (.slice a1 ents1.length cap1) := by rw [Lib.cell_of_heap (HK1.out _ hb6)]; rfl
  have m1_13 : w6.cell? ⟨g, 13, none⟩ = some (.bool flag1) := by rw [Lib.cell_of_heap (HK1.out _ hb6)]; rfl
  have m1_14 : w6.cell? ⟨g, 14, none⟩ = some (.int .i64 node1) := by rw [Lib.cell_of_heap (HK1.out _ hb6)]; rfl
  have m1_15 : w6.cell? ⟨g, 15, none⟩ = some (.int .i64 cli1) := by rw [Lib.cell_of_heap (HK1.out _ hb6)]; rfl
  have m1_16 : w6.cell? ⟨g, 16, none⟩ = some (.int .i64 seq1) := by rw [Lib.cell_of_heap (HK1.out _ hb6)]; rfl
  have m2_0 : w6.cell? ⟨h, 0, none⟩ = some (.int .i64 ty2) := by rw [Lib.cell_of_heap (HK2.out _ hb6)]; rfl
  have m2_1 : w6.cell? ⟨h, 1, none⟩ = some (.int .i64 ld2) := by rw [Lib.cell_of_heap (HK2.out _ hb6)]; rfl
  have m2_2 : w6.cell? ⟨h, 2, none⟩ = some (.int .i64 zp2) := by rw [Lib.cell_of_heap (HK2.out _ hb6)]; rfl
  have m2_3 : w6.cell? ⟨h, 3, none⟩ = some (.int .i64 zq2) := by rw [Lib.cell_of_heap (HK2.out _ hb6)]; rfl
  have m2_4 : w6.cell? ⟨h, 4, none⟩ = some (.int .i64 ep2) := by rw [Lib.cell_of_heap (HK2.out _ hb6)]; rfl
  have m2_5 : w6.cell? ⟨h, 5, none⟩ = some (.int .i64 own2) := by rw [Lib.cell_of_heap (HK2.out _ hb6)]; rfl
  have m2_6 : w6.cell? ⟨h, 6, none⟩ = some (.int .i64 fp2) := by rw [Lib.cell_of_heap (HK2.out _ hb6)]; rfl
  have m2_7 : w6.cell? ⟨h, 7, none⟩ = some (.int .i64 fq2) := by rw [Lib.cell_of_heap (HK2.out _ hb6)]; rfl
  have m2_8 : w6.cell? ⟨h, 8, none⟩ = some (.int .i64 rnd2) := by rw [Lib.cell_of_heap (HK2.out _ hb6)]; rfl
  have m2_9 : w6.cell? ⟨h, 9, none⟩ = some (.int .i64 st2) := by rw [Lib.cell_of_heap (HK2.out _ hb6)]; rfl
  have m2_10 : w6.cell? ⟨h, 10, none⟩ = some (.int .i64 kd2) := by rw [Lib.cell_of_heap (HK2.out _ hb6)]; rfl
  have m2_11 : w6.cell? ⟨h, 11, none⟩ = some (.string (bs body2)) := by rw [Lib.cell_of_heap (HK2.out _ hb6)]; rfl
  have m2_12 : w6.cell? ⟨h, 12, none⟩ = some (.slice a2 ents2.length cap2) := by rw [Lib.cell_of_heap (HK2.out _ hb6)]; rfl
  have m2_13 : w6.cell? ⟨h, 13, none⟩ = some (.bool flag2) := by rw [Lib.cell_of_heap (HK2.out _ hb6)]; rfl
  have m2_14 : w6.cell? ⟨h, 14, none⟩ = some (.int .i64 node2) := by rw [Lib.cell_of_heap (HK2.out _ hb6)]; rfl
  have m2_15 : w6.cell? ⟨h, 15, none⟩ = some (.int .i64 cli2) := by rw [Lib.cell_of_heap (HK2.out _ hb6)]; rfl
  have m2_16 : w6.cell? ⟨h, 16, none⟩ = some (.int .i64 seq2) := by rw [Lib.cell_of_heap (HK2.out _ hb6)]; rfl
  have HO1 := Lib.hid (fun X (hX : Below w6.heap.size w6 X) => HO1.out X (hb6.trans (hX.mono hb6.size)))
  have HO2 := Lib.hid (fun X (hX : Below w6.heap.size w6 X) => HO2.out X (hb6.trans (hX.mono hb6.size)))
  have Hb6 := Lib.hid hb6
  have hB := Below.refl w6.heap.size w6
  clear HLaw hb6 HK1 HK2
  have t9 : ((bs S1).toList == (bs S2).toList) = D := by
    rw [bs_toList, bs_toList, ← hlaw]
    by_cases hS : S1 = S2
    · rw [decide_eq_true hS]; exact beq_iff_eq.2 hS
    · rw [decide_eq_false hS]; exact beq_eq_false_iff_ne.2 hS
  have t10 : (D == D) = true := beq_self_eq_true _
  clear hlaw
  go_region_held3 (fun w' => w'.cell? ⟨g, 0, none⟩ = some (.int .i64 ty1) ∧ w'.cell? ⟨g, 1, none⟩ = some (.int .i64 ld1) ∧ w'.cell? ⟨g, 2, none⟩ = some (.int .i64 zp1) ∧ w'.cell? ⟨g, 3, none⟩ = some (.int .i64 zq1) ∧ w'.cell? ⟨g, 4, none⟩ = some (.int .i64 ep1) ∧ w'.cell? ⟨g, 5, none⟩ = some (.int .i64 own1) ∧ w'.cell? ⟨g, 6, none⟩ = some (.int .i64 fp1) ∧ w'.cell? ⟨g, 7, none⟩ = some (.int .i64 fq1) ∧ w'.cell? ⟨g, 8, none⟩ = some (.int .i64 rnd1) ∧ w'.cell? ⟨g, 9, none⟩ = some (.int .i64 st1) ∧ w'.cell? ⟨g, 10, none⟩ = some (.int .i64 kd1) ∧ w'.cell? ⟨g, 11, none⟩ = some (.string (bs body1)) ∧ w'.cell? ⟨g, 12, none⟩ = some (.slice a1 ents1.length cap1) ∧ w'.cell? ⟨g, 13, none⟩ = some (.bool flag1) ∧ w'.cell? ⟨g, 14, none⟩ = some (.int .i64 node1) ∧ w'.cell? ⟨g, 15, none⟩ = some (.int .i64 cli1) ∧ w'.cell? ⟨g, 16, none⟩ = some (.int .i64 seq1) ∧ w'.cell? ⟨h, 0, none⟩ = some (.int .i64 ty2) ∧ w'.cell? ⟨h, 1, none⟩ = some (.int .i64 ld2) ∧ w'.cell? ⟨h, 2, none⟩ = some (.int .i64 zp2) ∧ w'.cell? ⟨h, 3, none⟩ = some (.int .i64 zq2) ∧ w'.cell? ⟨h, 4, none⟩ = some (.int .i64 ep2) ∧ w'.cell? ⟨h, 5, none⟩ = some (.int .i64 own2) ∧ w'.cell? ⟨h, 6, none⟩ = some (.int .i64 fp2) ∧ w'.cell? ⟨h, 7, none⟩ = some (.int .i64 fq2) ∧ w'.cell? ⟨h, 8, none⟩ = some (.int .i64 rnd2) ∧ w'.cell? ⟨h, 9, none⟩ = some (.int .i64 st2) ∧ w'.cell? ⟨h, 10, none⟩ = some (.int .i64 kd2) ∧ w'.cell? ⟨h, 11, none⟩ = some (.string (bs body2)) ∧ w'.cell? ⟨h, 12, none⟩ = some (.slice a2 ents2.length cap2) ∧ w'.cell? ⟨h, 13, none⟩ = some (.bool flag2) ∧ w'.cell? ⟨h, 14, none⟩ = some (.int .i64 node2) ∧ w'.cell? ⟨h, 15, none⟩ = some (.int .i64 cli2) ∧ w'.cell? ⟨h, 16, none⟩ = some (.int .i64 seq2)) (first | exact ⟨Grew.cell hB m1_0, Grew.cell hB m1_1, Grew.cell hB m1_2, Grew.cell hB m1_3, Grew.cell hB m1_4, Grew.cell hB m1_5, Grew.cell hB m1_6, Grew.cell hB m1_7, Grew.cell hB m1_8, Grew.cell hB m1_9, Grew.cell hB m1_10, Grew.cell hB m1_11, Grew.cell hB m1_12, Grew.cell hB m1_13, Grew.cell hB m1_14, Grew.cell hB m1_15, Grew.cell hB m1_16, Grew.cell hB m2_0, Grew.cell hB m2_1, Grew.cell hB m2_2, Grew.cell hB m2_3, Grew.cell hB m2_4, Grew.cell hB m2_5, Grew.cell hB m2_6, Grew.cell hB m2_7, Grew.cell hB m2_8, Grew.cell hB m2_9, Grew.cell hB m2_10, Grew.cell hB m2_11, Grew.cell hB m2_12, Grew.cell hB m2_13, Grew.cell hB m2_14, Grew.cell hB m2_15, Grew.cell hB m2_16⟩ | go_keep) (first | (go_at_call 36; (with_reducible refine (HO1.out _ (by first | exact hB | exact Below.drew hB)).mono ?_); rintro e wX ⟨vA, rfl, hvA, hbOA⟩; first | have hB := step0 hB hbOA | have hB := step0d hB hbOA) | (go_at_call 36; (with_reducible refine (HO2.out _ (by first | exact hB | exact Below.drew hB)).mono ?_); rintro e wX ⟨vB, rfl, hvB, hbOB⟩; first | have hB := step0 hB hbOB | have hB := step0d hB hbOB) | (go_at_call 39; (with_reducible refine (HP1.out _ _ (by first | exact hvA | exact MvAt.grew hvA hbOB | exact MvAt.grew (MvAt.grew hvA hbOB) hbPB | exact MvAt.grew hvA hbPB)).mono ?_); rintro e wX ⟨aA, cA, rfl, hEA, hbPA, hnA⟩; first | have hB := step0 hB hbPA | have hB := step0d hB hbPA) | (go_at_call 39; (with_reducible refine (HP2.out _ _ (by first | exact hvB | exact MvAt.grew hvB hbOA | exact MvAt.grew (MvAt.grew hvB hbOA) hbPA | exact MvAt.grew hvB hbPA)).mono ?_); rintro e wX ⟨aB, cB, rfl, hEB, hbPB, hnB⟩; first | have hB := step0 hB hbPB | have hB := step0d hB hbPB) | (go_at_call 40; (with_reducible refine (HS.out _ _ _ _ _ (by first | exact hEA | exact EntsIn.grew hEA hbPB | exact EntsIn.grew (EntsIn.grew hEA hbOB) hbPB) (by first | exact hEB | exact EntsIn.grew hEB hbPA | exact EntsIn.grew (EntsIn.grew hEB hbOA) hbPA)).mono ?_); rintro e wX ⟨rfl, hbS⟩; first | have hB := step0 hB hbS | have hB := step0d hB hbS) | (go_at_call 35; (with_reducible refine (HWk.out _).mono ?_); rintro e wX ⟨rfl, hbW⟩; first | have hB := step0 hB hbW | have hB := step0d hB hbW))
  all_goals go_wp2
  all_goals go_ret
  all_goals exact ⟨rfl, by rw [HG.out]; exact HB.out _ (Hb6.out.trans (hB.mono Hb6.out.size))⟩
end Go.Proofs.Ytlbacddgjagcbaa
