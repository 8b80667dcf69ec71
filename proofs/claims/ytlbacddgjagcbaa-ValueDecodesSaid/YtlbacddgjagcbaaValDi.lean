/- The law ValueDecodes. Conditions: as each theorem says. -/
import Derived.Test.YtlbacddgjagcbaaValDk
import Derived.Test.YtlbacddgjagcbaaValW
import Derived.Test.YtlbacddgjagcbaaValEn
namespace Go.Proofs.Ytlbacddgjagcbaa
open Go.RowKit

theorem zero17 (w : World) : BlkAt w.heap.size 51 (msgCells zeroM none 0) (w.alloc (.cells #[.int .i64 0, .int .i64 0, .int .i64 0, .int .i64 0, .int .i64 0, .int .i64 0, .int .i64 0, .int .i64 0, .int .i64 0, .int .i64 0, .int .i64 0, .string ⟨#[]⟩, .slice none 0 0, .bool false, .int .i64 0, .int .i64 0, .int .i64 0] 51)) := zero_blk w
set_option maxRecDepth 100000 in
set_option maxHeartbeats 16000000 in
/-- THE LAW. -/
theorem valueDecodes_walk (w : World) (s : ByteArray) (hs : s.size ≤ maxLen) :
    Calls Try.prog 14 #[.string s] w fun e w' => e = .returned (.bool true) ∧ Below w.heap.size w w' := by
  have HWk := Lib.hid (fun X => wake_any X)
  unfold maxLen at hs
  obtain ⟨l, rfl⟩ : ∃ l, s = bs l := ⟨_, (bs_of s).symm⟩
  have hz := bs_size l
  by_cases hlen : l.length ≤ 20000
  case neg =>
    have t1 : decide ((20000 : Int) < ((bs l).size : Int)) = true := decide_eq_true (by rw [hz]; omega)
    clear hz hlen
    go_enter Try.func14, Try.ntmps14
    go_wp2_with (fail)
    refine (HWk.out _).mono ?_
    rintro e w2 ⟨rfl, hb2⟩
    go_wp2
    go_ret
    exact ⟨rfl, hb2⟩
  have t1 : decide ((20000 : Int) < ((bs l).size : Int)) = false := decide_eq_false (by rw [hz]; omega)
  have hok := decR_ok l (by omega)
  have HD := Lib.hid (fun X => decode_any l (by omega) X)
  have HR := Lib.hid (fun X => refDecode_any l (by omega) X)
  have HN := Lib.hid (dec_none l)
  unfold DecSaid at HD
  unfold RDecSaid at HR
  clear hz hlen
  generalize decR l = d at *
  obtain ⟨m, k⟩ := d
  simp only at hok HD HR HN
  have HP := Lib.hid (fun u X hX => plain_all m u hok X hX)
  have HS := Lib.hid (fun aA cA aB cB X hA hB => same_yes (plM m) aA aB cA cB X hA hB)
  unfold PlainAt at HP
  clear hok
  go_enter Try.func14, Try.ntmps14
  go_wp2_with (fail)
  refine (HD.out _).mono ?_
  rintro e w1 ⟨u, rfl, hm1, hb1⟩
  go_wp2_with (fail)
  refine (HR.out _).mono ?_
  rintro e w2 ⟨a2, c2, rfl, hE2, hb2⟩
  clear HD HR
  have hm2 := hm1.grew hb2
  have hbw2 := hb1.trans (hb2.mono hb1.size)
  clear hm1 hb1 hb2
  generalize hpm : plM m = pm at *
  obtain ⟨ty, ld, ⟨z1, z2⟩, ep, own, ⟨f1, f2⟩, rnd, st, kd, body, ents, flag, node, cli, seq⟩ := pm
  simp only at hE2
  unfold msgV msgCells at HP HS ⊢
  simp only at HP HS ⊢
  go_wp2_with (refine wpList_store_blk (by rfl) 51 _ _ (by rfl) w2.heap.size 51 (msgCells zeroM none 0) [.int .i64 ty, .int .i64 ld, .int .i64 z1, .int .i64 z2, .int .i64 ep, .int .i64 own, .int .i64 f1, .int .i64 f2, .int .i64 rnd, .int .i64 st, .int .i64 kd, .string (bs body), .slice a2 ents.length c2, .bool flag, .int .i64 node, .int .i64 cli, .int .i64 seq] (by rfl) (by rfl) (zero17 w2) rfl infoMsg (msgCells_one ⟨ty, ld, (z1, z2), ep, own, (f1, f2), rnd, st, kd, body, ents, flag, node, cli, seq⟩ a2 c2) ?_)
  intro w4 hk4 hg4
  have hb4 := (alloc_below w2 (.cells (msgCells zeroM none 0).toArray 51)).grown hg4 (by simp) (fun k hk => Nat.le_of_eq (Option.some.inj hk))
  have hE4 := hE2.grew hb4
  have hm4 := hm2.grew hb4
  have Hbw4 := Lib.hid (hbw2.trans (hb4.mono hbw2.size))
  clear hE2 hm2 hbw2 hb4 hg4 hpm
  generalize w2.heap.size = g at *
  go_upto_region 5 with (fail)
  have hB := Below.refl w4.heap.size w4
  have HE := Lib.hid (fun X (hX : Below w4.heap.size w4 X) => hE4.grew hX)
  have m0 : w4.cell? ⟨g, 0, none⟩ = some (.int .i64 ty) := BlkAt.cell hk4 rfl
  have m1 : w4.cell? ⟨g, 1, none⟩ = some (.int .i64 ld) := BlkAt.cell hk4 rfl
  have m2 : w4.cell? ⟨g, 2, none⟩ = some (.int .i64 z1) := BlkAt.cell hk4 rfl
  have m3 : w4.cell? ⟨g, 3, none⟩ = some (.int .i64 z2) := BlkAt.cell hk4 rfl
  have m4 : w4.cell? ⟨g, 4, none⟩ = some (.int .i64 ep) := BlkAt.cell hk4 rfl
  have m5 : w4.cell? ⟨g, 5, none⟩ = some (.int .i64 own) := BlkAt.cell hk4 rfl
  have m6 : w4.cell? ⟨g, 6, none⟩ = some (.int .i64 f1) := BlkAt.cell hk4 rfl
  have m7 : w4.cell? ⟨g, 7, none⟩ = some (.int .i64 f2) := BlkAt.cell hk4 rfl
  have m8 : w4.cell? ⟨g, 8, none⟩ = some (.int .i64 rnd) := BlkAt.cell hk4 rfl
  have m9 : w4.cell? ⟨g, 9, none⟩ = some (.int .i64 st) := BlkAt.cell hk4 rfl
  have m10 : w4.cell? ⟨g, 10, none⟩ = some (.int .i64 kd) := BlkAt.cell hk4 rfl
  have m11 : w4.cell? ⟨g, 11, none⟩ = some (.string (bs body)) := BlkAt.cell hk4 rfl
  have m12 : w4.cell? ⟨g, 12, none⟩ = some (.slice a2 ents.length c2) := BlkAt.cell hk4 rfl
  have m13 : w4.cell? ⟨g, 13, none⟩ = some (.bool flag) := BlkAt.cell hk4 rfl
  have m14 : w4.cell? ⟨g, 14, none⟩ = some (.int .i64 node) := BlkAt.cell hk4 rfl
  have m15 : w4.cell? ⟨g, 15, none⟩ = some (.int .i64 cli) := BlkAt.cell hk4 rfl
  have m16 : w4.cell? ⟨g, 16, none⟩ = some (.int .i64 seq) := BlkAt.cell hk4 rfl
  have t2 : ((k : Int) == (k : Int)) = true := beq_self_eq_true _
  by_cases hk0 : k = 0
  · subst hk0
    rw [show ((0 : Nat) : Int) = (0 : Int) from rfl] at t2
    rw [show ((0 : Nat) : Int) = (0 : Int) from rfl]
    have HPw := Lib.hid (fun X (hX : Below w4.heap.size w4 X) => HP.out u X (hm4.grew hX))
    clear HP HN hk4 hm4 hE4
    as_aux_lemma =>
    first
      | go_region_law (go_simp; first | (go_at_call 39; (with_reducible refine (HPw.out _ (by first | exact hB | exact Below.drew hB)).mono ?_); rintro e wX ⟨aA, cA, rfl, hEA, hbPA, hnA⟩; ((first | have hB := step0 hB hbPA | have hB := step0d hB hbPA); have m0 := Grew.cell hbPA m0; have m1 := Grew.cell hbPA m1; have m2 := Grew.cell hbPA m2; have m3 := Grew.cell hbPA m3; have m4 := Grew.cell hbPA m4; have m5 := Grew.cell hbPA m5; have m6 := Grew.cell hbPA m6; have m7 := Grew.cell hbPA m7; have m8 := Grew.cell hbPA m8; have m9 := Grew.cell hbPA m9; have m10 := Grew.cell hbPA m10; have m11 := Grew.cell hbPA m11; have m12 := Grew.cell hbPA m12; have m13 := Grew.cell hbPA m13; have m14 := Grew.cell hbPA m14; have m15 := Grew.cell hbPA m15; have m16 := Grew.cell hbPA m16)) | (go_at_call 40; (with_reducible refine (HS.out _ _ _ _ _ hEA (HE.out _ hB)).mono ?_); rintro e wX ⟨rfl, hbS⟩; first | have hB := step0 hB hbS | have hB := step0d hB hbS) | (go_at_call 35; (with_reducible refine (HWk.out _).mono ?_); rintro e wX ⟨rfl, hbW⟩; first | have hB := step0 hB hbW | have hB := step0d hB hbW))
      | fail
    all_goals go_wp2
    all_goals go_ret
    all_goals exact ⟨rfl, Hbw4.out.trans (hB.mono Hbw4.out.size)⟩
  · have t3 : ((k : Int) == 0) = false := beq_eq_false_iff_ne.2 (by omega)
    obtain rfl : m = .none := HN.out hk0
    obtain rfl : u = .nilIface := hm4
    have HPw := Lib.hid (fun X (hX : Below w4.heap.size w4 X) => HP.out .nilIface X rfl)
    clear HP HN hk4 hE4 hk0
    first
      | go_region_held3 (fun w' => w'.cell? ⟨g, 0, none⟩ = some (.int .i64 ty) ∧ w'.cell? ⟨g, 1, none⟩ = some (.int .i64 ld) ∧ w'.cell? ⟨g, 2, none⟩ = some (.int .i64 z1) ∧ w'.cell? ⟨g, 3, none⟩ = some (.int .i64 z2) ∧ w'.cell? ⟨g, 4, none⟩ = some (.int .i64 ep) ∧ w'.cell? ⟨g, 5, none⟩ = some (.int .i64 own) ∧ w'.cell? ⟨g, 6, none⟩ = some (.int .i64 f1) ∧ w'.cell? ⟨g, 7, none⟩ = some (.int .i64 f2) ∧ w'.cell? ⟨g, 8, none⟩ = some (.int .i64 rnd) ∧ w'.cell? ⟨g, 9, none⟩ = some (.int .i64 st) ∧ w'.cell? ⟨g, 10, none⟩ = some (.int .i64 kd) ∧ w'.cell? ⟨g, 11, none⟩ = some (.string (bs body)) ∧ w'.cell? ⟨g, 12, none⟩ = some (.slice a2 ents.length c2) ∧ w'.cell? ⟨g, 13, none⟩ = some (.bool flag) ∧ w'.cell? ⟨g, 14, none⟩ = some (.int .i64 node) ∧ w'.cell? ⟨g, 15, none⟩ = some (.int .i64 cli) ∧ w'.cell? ⟨g, 16, none⟩ = some (.int .i64 seq)) (first | exact ⟨Grew.cell hB m0, Grew.cell hB m1, Grew.cell hB m2, Grew.cell hB m3, Grew.cell hB m4, Grew.cell hB m5, Grew.cell hB m6, Grew.cell hB m7, Grew.cell hB m8, Grew.cell hB m9, Grew.cell hB m10, Grew.cell hB m11, Grew.cell hB m12, Grew.cell hB m13, Grew.cell hB m14, Grew.cell hB m15, Grew.cell hB m16⟩ | go_keep) (first | (go_at_call 39; (with_reducible refine (HPw.out _ (by first | exact hB | exact Below.drew hB)).mono ?_); rintro e wX ⟨aA, cA, rfl, hEA, hbPA, hnA⟩; (first | have hB := step0 hB hbPA | have hB := step0d hB hbPA)) | (go_at_call 40; (with_reducible refine (HS.out _ _ _ _ _ hEA (HE.out _ hB)).mono ?_); rintro e wX ⟨rfl, hbS⟩; first | have hB := step0 hB hbS | have hB := step0d hB hbS) | (go_at_call 35; (with_reducible refine (HWk.out _).mono ?_); rintro e wX ⟨rfl, hbW⟩; first | have hB := step0 hB hbW | have hB := step0d hB hbW))
      | fail
    all_goals go_wp2
    all_goals go_ret
    all_goals exact ⟨rfl, Hbw4.out.trans (hB.mono Hbw4.out.size)⟩
end Go.Proofs.Ytlbacddgjagcbaa
