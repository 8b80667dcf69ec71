/- The law ValueEncodes. Conditions: as each theorem says. -/
import Derived.Test.YtlbacddgjagcbaaValEn
namespace Go.Proofs.Ytlbacddgjagcbaa
open Go.RowKit

theorem err_same (k : Nat) : (((k : Int)) == (k : Int)) = true := beq_self_eq_true _
set_option maxRecDepth 100000 in
set_option maxHeartbeats 16000000 in
/-- THE LAW. -/
theorem valueEncodes_walk (w : World) (v0 : Value) (h0 : IsMsg w v0) :
    Calls Try.prog 10 #[v0] w fun e w' => e = .returned (.bool true) ∧ Below w.heap.size w w' := by
  obtain ⟨m, a, cap, rfl, hE, hm⟩ := h0
  have HF : Hid (∀ X, EntsIn X a cap m.ents → Calls Try.prog 34 #[msgV m a cap] X fun e w' => e = .returned (.bool (fewM m)) ∧ Below X.heap.size X w') := fun X hX => fewM_any m a cap X hX hm
  have HO : Hid (∀ X, fewM m = true → EntsIn X a cap m.ents → Calls Try.prog 36 #[msgV m a cap] X fun e w' => OfSaid m X e w') := fun X hf hX => of_any m a cap X hX hm hf
  have HOK := Lib.hid (fun hf => ofM_ok m hm hf hE.2.2.2)
  have HWk := Lib.hid (fun X => wake_any X)
  have hbo := Nat.le_trans hE.1 hE.2.1
  unfold maxLen at hbo
  obtain ⟨ty, ld, ⟨z1, z2⟩, ep, own, ⟨f1, f2⟩, rnd, st, kd, body, ents, flag, node, cli, seq⟩ := m
  simp only at hE hbo
  unfold msgV msgCells at HF HO ⊢
  simp only at HF HO ⊢
  obtain ⟨W, hW⟩ : ∃ X, X = w.alloc (.cells #[.int .i64 ty, .int .i64 ld, .int .i64 z1, .int .i64 z2, .int .i64 ep, .int .i64 own, .int .i64 f1, .int .i64 f2, .int .i64 rnd, .int .i64 st, .int .i64 kd, .string (bs body), .slice a ents.length cap, .bool flag, .int .i64 node, .int .i64 cli, .int .i64 seq] 51) := ⟨_, rfl⟩
  have hk : W.heap[w.heap.size]? = some (.cells #[.int .i64 ty, .int .i64 ld, .int .i64 z1, .int .i64 z2, .int .i64 ep, .int .i64 own, .int .i64 f1, .int .i64 f2, .int .i64 rnd, .int .i64 st, .int .i64 kd, .string (bs body), .slice a ents.length cap, .bool flag, .int .i64 node, .int .i64 cli, .int .i64 seq] 51 (0, 0)) := by rw [hW]; exact heap_alloc_new w _
  have hB : Below w.heap.size w W := by rw [hW]; exact alloc_below w _
  have HE := Lib.hid (fun X (hX : Below W.heap.size W X) => (hE.grew hB).grew hX)
  have HK0 := Lib.hid (fun X (hX : Below W.heap.size W X) => Grew.at_ hX hk)
  have HWe := Lib.hid hW
  clear hW hk hE hm
  go_enter Try.func10, Try.ntmps10
  go_upto_region 1 with (fail)
  rw [← HWe.out]
  clear HWe
  have HB : Hid (∀ X, Below W.heap.size W X → Below w.heap.size w X) := fun X hX => hB.trans (hX.mono hB.size)
  generalize hg : w.heap.size = g at *
  have HG := Lib.hid hg
  clear hg
  have HKW := Lib.hid (HK0.out W (Below.refl _ _))
  have m0 : W.cell? ⟨g, 0, none⟩ = some (.int .i64 ty) := by rw [Lib.cell_of_heap HKW.out]; rfl
  have m1 : W.cell? ⟨g, 1, none⟩ = some (.int .i64 ld) := by rw [Lib.cell_of_heap HKW.out]; rfl
  have m2 : W.cell? ⟨g, 2, none⟩ = some (.int .i64 z1) := by rw [Lib.cell_of_heap HKW.out]; rfl
  have m3 : W.cell? ⟨g, 3, none⟩ = some (.int .i64 z2) := by rw [Lib.cell_of_heap HKW.out]; rfl
  have m4 : W.cell? ⟨g, 4, none⟩ = some (.int .i64 ep) := by rw [Lib.cell_of_heap HKW.out]; rfl
  have m5 : W.cell? ⟨g, 5, none⟩ = some (.int .i64 own) := by rw [Lib.cell_of_heap HKW.out]; rfl
  have m6 : W.cell? ⟨g, 6, none⟩ = some (.int .i64 f1) := by rw [Lib.cell_of_heap HKW.out]; rfl
  have m7 : W.cell? ⟨g, 7, none⟩ = some (.int .i64 f2) := by rw [Lib.cell_of_heap HKW.out]; rfl
  have m8 : W.cell? ⟨g, 8, none⟩ = some (.int .i64 rnd) := by rw [Lib.cell_of_heap HKW.out]; rfl
  have m9 : W.cell? ⟨g, 9, none⟩ = some (.int .i64 st) := by rw [Lib.cell_of_heap HKW.out]; rfl
  have m10 : W.cell? ⟨g, 10, none⟩ = some (.int .i64 kd) := by rw [Lib.cell_of_heap HKW.out]; rfl
  have m11 : W.cell? ⟨g, 11, none⟩ = some (.string (bs body)) := by rw [Lib.cell_of_heap HKW.out]; rfl
  have m12 : W.cell? ⟨g, 12, none⟩ = some (.slice a ents.length cap) := by rw [Lib.cell_of_heap HKW.out]; rfl
  have m13 : W.cell? ⟨g, 13, none⟩ = some (.bool flag) := by rw [Lib.cell_of_heap HKW.out]; rfl
  have m14 : W.cell? ⟨g, 14, none⟩ = some (.int .i64 node) := by rw [Lib.cell_of_heap HKW.out]; rfl
  have m15 : W.cell? ⟨g, 15, none⟩ = some (.int .i64 cli) := by rw [Lib.cell_of_heap HKW.out]; rfl
  have m16 : W.cell? ⟨g, 16, none⟩ = some (.int .i64 seq) := by rw [Lib.cell_of_heap HKW.out]; rfl
  go_wp2_with (fail)
  refine (HF.out _ (HE.out _ (Below.refl _ _))).mono ?_
  rintro e w1 ⟨rfl, hb1⟩
  clear HF m0 m1 m2 m3 m4 m5 m6 m7 m8 m9 m10 m11 m12 m13 m14 m15 m16
  by_cases hf : fewM ⟨ty, ld, (z1, z2), ep, own, (f1, f2), rnd, st, kd, body, ents, flag, node, cli, seq⟩ = true
  · as_aux_lemma =>
    rw [hf]
    have HK1 := Lib.hid (HK0.out _ hb1)
    have m0 : w1.cell? ⟨g, 0, none⟩ = some (.int .i64 ty) := by rw [Lib.cell_of_heap HK1.out]; rfl
    have m1 : w1.cell? ⟨g, 1, none⟩ = some (.int .i64 ld) := by rw [Lib.cell_of_heap HK1.out]; rfl
    have m2 : w1.cell? ⟨g, 2, none⟩ = some (.int .i64 z1) := by rw [Lib.cell_of_heap HK1.out]; rfl
    have m3 : w1.cell? ⟨g, 3, none⟩ = some (.int .i64 z2) := by rw [Lib.cell_of_heap HK1.out]; rfl
    have m4 : w1.cell? ⟨g, 4, none⟩ = some (.int .i64 ep) := by rw [Lib.cell_of_heap HK1.out]; rfl
    have m5 : w1.cell? ⟨g, 5, none⟩ = some (.int .i64 own) := by rw [Lib.cell_of_heap HK1.out]; rfl
    have m6 : w1.cell? ⟨g, 6, none⟩ = some (.int .i64 f1) := by rw [Lib.cell_of_heap HK1.out]; rfl
    have m7 : w1.cell? ⟨g, 7, none⟩ = some (.int .i64 f2) := by rw [Lib.cell_of_heap HK1.out]; rfl
    have m8 : w1.cell? ⟨g, 8, none⟩ = some (.int .i64 rnd) := by rw [Lib.cell_of_heap HK1.out]; rfl
    have m9 : w1.cell? ⟨g, 9, none⟩ = some (.int .i64 st) := by rw [Lib.cell_of_heap HK1.out]; rfl
    have m10 : w1.cell? ⟨g, 10, none⟩ = some (.int .i64 kd) := by rw [Lib.cell_of_heap HK1.out]; rfl
    have m11 : w1.cell? ⟨g, 11, none⟩ = some (.string (bs body)) := by rw [Lib.cell_of_heap HK1.out]; rfl
    have m12 : w1.cell? ⟨g, 12, none⟩ = some (.slice a ents.length cap) := by rw [Lib.cell_of_heap HK1.out]; rfl
    have m13 : w1.cell? ⟨g, 13, none⟩ = some (.bool flag) := by rw [Lib.cell_of_heap HK1.out]; rfl
    have m14 : w1.cell? ⟨g, 14, none⟩ = some (.int .i64 node) := by rw [Lib.cell_of_heap HK1.out]; rfl
    have m15 : w1.cell? ⟨g, 15, none⟩ = some (.int .i64 cli) := by rw [Lib.cell_of_heap HK1.out]; rfl
    have m16 : w1.cell? ⟨g, 16, none⟩ = some (.int .i64 seq) := by rw [Lib.cell_of_heap HK1.out]; rfl
    go_wp2_with (fail)
    refine (HO.out _ hf (HE.out _ hb1)).mono ?_
    rintro e w2 ⟨v, rfl, hv, hb2⟩
    have hok := HOK.out hf
    generalize ofM ⟨ty, ld, (z1, z2), ep, own, (f1, f2), rnd, st, kd, body, ents, flag, node, cli, seq⟩ = x at *
    have Hb2 := Lib.hid (hb1.trans (hb2.mono hb1.size))
    have HEn := Lib.hid (fun X hX => enc_any x v hok X hX)
    have HPl := Lib.hid (fun X hX => plain_all x v hok X hX)
    have HRe := Lib.hid (fun a2 c2 X hE hn => refEnc_any x a2 c2 hok X hE hn)
    have HV := Lib.hid hv
    unfold EncSaid at HEn HRe
    unfold PlainAt at HPl
    generalize encMv x = S at *
    generalize errMv x = k at *
    have t1 : ((k : Int) == (k : Int)) = true := beq_self_eq_true _
    have t2 : ((bs S).toList == (bs S).toList) = true := beq_self_eq_true _
    clear HO HOK hf hv HK1 hb1 hb2 HK0 HE hok m0 m1 m2 m3 m4 m5 m6 m7 m8 m9 m10 m11 m12 m13 m14 m15 m16
    go_wp2_with (fail)
    refine (HEn.out _ HV.out).mono ?_
    rintro e w3 ⟨rfl, hb3⟩
    go_wp2_with (fail)
    refine (HPl.out _ (HV.out.grew hb3)).mono ?_
    rintro e w4 ⟨a2, c2, rfl, hE4, hb4, hn4⟩
    go_wp2_with (fail)
    refine (HRe.out a2 c2 _ hE4 hn4).mono ?_
    rintro e w5 ⟨rfl, hb5⟩
    go_wp2_with (fail)
    refine (HWk.out _).mono ?_
    rintro e w6 ⟨rfl, hb6⟩
    go_wp2
    go_ret
    exact ⟨rfl, by rw [HG.out]; exact HB.out _ (Hb2.out.trans ((hb3.trans ((hb4.trans ((hb5.trans (hb6.mono hb5.size)).mono hb4.size)).mono hb3.size)).mono Hb2.out.size))⟩
  · as_aux_lemma =>
    rw [Bool.eq_false_iff.2 hf]
    clear HK0 HO HE HOK hf
    go_wp2_with (fail)
    refine (HWk.out _).mono ?_
    rintro e w2 ⟨rfl, hb2⟩
    go_wp2
    go_ret
    exact ⟨rfl, by rw [HG.out]; exact HB.out _ (hb1.trans (hb2.mono hb1.size))⟩
end Go.Proofs.Ytlbacddgjagcbaa
