/- The law TalkApart walked. Printed by gen/genTalN.py. Conditions: as each theorem says. -/
import Derived.Test.YtlcblkmmkphpmaaTalM
namespace Go.Proofs.Ytlcblkmmkphpmaa
open Go.RowKit

theorem str_ne {A B : Byt} (h : A ≠ B) : ((bs A).toList == (bs B).toList) = false := by rw [bs_toList, bs_toList, beq_eq_false_iff_ne]; exact h
theorem range5 {w : World} {b o : Nat} {v0 v1 v2 v3 v4 : Value} (h0 : w.cell? ⟨b, o, none⟩ = some v0) (h1 : w.cell? ⟨b, o + 1, none⟩ = some v1) (h2 : w.cell? ⟨b, o + 2, none⟩ = some v2) (h3 : w.cell? ⟨b, o + 3, none⟩ = some v3) (h4 : w.cell? ⟨b, o + 4, none⟩ = some v4) : w.rangeAt b o [v0, v1, v2, v3, v4] := by
  intro j v hj
  match j, hj with
  | 0, hj => simp only [List.getElem?_cons_zero, Option.some.injEq] at hj; subst hj; exact h0
  | 1, hj => simp at hj; subst hj; exact h1
  | 2, hj => simp at hj; subst hj; exact h2
  | 3, hj => simp at hj; subst hj; exact h3
  | 4, hj => simp at hj; subst hj; exact h4
theorem str_ne3 {A B : Byt} (h : A ≠ B) : ¬ (bs A).toList = (bs B).toList := by rw [bs_toList, bs_toList]; exact h
set_option maxRecDepth 100000 in
set_option maxHeartbeats 4000000 in
theorem apart_law (x y : Req) (s1 s2 s3 u1 u2 u3 : Value) (z t : Res) (s u : Value) (L M : List (Ans × Value)) (w : World) (hx : RqAt w x s1 s2 s3) (hy : RqAt w y u1 u2 u3) (hz : RsAt w z s L) (ht : RsAt w t u M) (ix : x.int) (iy : y.int) (iz : z.int) (it : t.int) (zx : x.sz) (zy : y.sz) (zz : z.sz) (zt : t.sz) :
    Calls Try.prog 7 #[.agg (rqV x s1 s2 s3 ++ rqV y u1 u2 u3).toArray, .agg (rsV z s ++ rsV t u).toArray] w fun e w' => e = .returned (.bool true) ∧ Below w.heap.size w w' := by
  have fx := fun X hX => lfew_any x s1 s2 s3 X hX zx
  have fy := fun X hX => lfew_any y u1 u2 u3 X hX zy
  have fz := fun X hX => lsome_any z s L X hX zz
  have ft := fun X hX => lsome_any t u M X hX zt
  have okx := fun hf : fewRq x = true => rq_ok hf ix
  have oky := fun hf : fewRq y = true => rq_ok hf iy
  have okz := fun hf : fewRs z = true => rs_ok hf iz
  have okt := fun hf : fewRs t = true => rs_ok hf it
  have HQ1 := Lib.hid (fun X h1 h2 => sameReq_any x y s1 s2 s3 u1 u2 u3 X h1 h2 zx zy)
  have HQ2 := Lib.hid (fun X h1 h2 => sameRes_any z t s u L M X h1 h2 zz zt)
  obtain ⟨a1, p1, rfl⟩ := hx.h1.form
  obtain ⟨a2, p2, rfl⟩ := hx.h2.form
  obtain ⟨a3, p3, rfl⟩ := hx.h3.form
  obtain ⟨b1, q1, rfl⟩ := hy.h1.form
  obtain ⟨b2, q2, rfl⟩ := hy.h2.form
  obtain ⟨b3, q3, rfl⟩ := hy.h3.form
  obtain ⟨c, k, rfl⟩ := hz.h1.form
  obtain ⟨d, l, rfl⟩ := ht.h1.form
  generalize fewRq x = F1 at *
  generalize fewRq y = F2 at *
  generalize fewRs z = F3 at *
  generalize fewRs t = F4 at *
  obtain ⟨W, hW, hB, k0, k1⟩ := boxes2 w 51 52 [.int .i64 x.kind, .slice a1 x.cmp.length p1, .slice a2 x.thn.length p2, .slice a3 x.els.length p3, .int .i64 x.rev, .int .i64 x.lease, .int .i64 x.ticks, .int .i64 y.kind, .slice b1 y.cmp.length q1, .slice b2 y.thn.length q2, .slice b3 y.els.length q3, .int .i64 y.rev, .int .i64 y.lease, .int .i64 y.ticks] [.int .i64 z.err, .int .i64 z.rev, .bool z.thn, .slice c L.length k, .int .i64 z.ticks, .int .i64 t.err, .int .i64 t.rev, .bool t.thn, .slice d M.length l, .int .i64 t.ticks]
  have HXW := Lib.hid (hx.grew hB)
  have HYW := Lib.hid (hy.grew hB)
  have HZW := Lib.hid (hz.grew hB)
  have HTW := Lib.hid (ht.grew hB)
  have HF1 := Lib.hid (fun X (hX : Grew W X) => fx X (HXW.out.grew hX))
  have HF2 := Lib.hid (fun X (hX : Grew W X) => fy X (HYW.out.grew hX))
  have HS1 := Lib.hid (fun X (hX : Grew W X) => fz X (HZW.out.grew hX))
  have HS2 := Lib.hid (fun X (hX : Grew W X) => ft X (HTW.out.grew hX))
  have HB := Lib.hid hB
  have HW := Lib.hid hW
  have HM := Lib.hid k0
  have HN := Lib.hid k1
  have HA := Lib.hid (fun X => awake_any X)
  clear hx hy hz ht hW hB k0 k1 fx fy fz ft ix iy iz it zx zy zz zt
  unfold rqV rsV at *
  simp only [List.cons_append, List.nil_append] at *
  have m0 := HM.out.cell (i := 0) rfl
  have m1 := HM.out.cell (i := 1) rfl
  have m2 := HM.out.cell (i := 2) rfl
  have m3 := HM.out.cell (i := 3) rfl
  have m4 := HM.out.cell (i := 4) rfl
  have m5 := HM.out.cell (i := 5) rfl
  have m6 := HM.out.cell (i := 6) rfl
  go_enter Try.func7, Try.ntmps7
  go_upto_region 1 with (fail)
  rw [← HW.out]
  clear HW
  cases F1 with
  | false =>
    as_aux_lemma =>
    clear okx oky okz okt HF2 HS1 HS2
    go_wp2_with (first
      | (go_at_call 14; (with_reducible refine (HF1.out _ (Grew.refl _)).mono ?_); rintro e w1 ⟨rfl, hb⟩; have HG1 := Lib.hid (show Grew W w1 from hb); clear HF1; have m7 := (HM.out.grew hb).cell (i := 7) rfl; have m8 := (HM.out.grew hb).cell (i := 8) rfl; have m9 := (HM.out.grew hb).cell (i := 9) rfl; have m10 := (HM.out.grew hb).cell (i := 10) rfl; have m11 := (HM.out.grew hb).cell (i := 11) rfl; have m12 := (HM.out.grew hb).cell (i := 12) rfl; have m13 := (HM.out.grew hb).cell (i := 13) rfl; clear hb)
      | (go_at_call 10; (with_reducible refine (HA.out _).mono ?_); rintro e w9 ⟨rfl, hb⟩; have HG9 := Lib.hid hb; clear hb))
    go_ret
    exact ⟨rfl, HB.out.trans (Below.mono (Grew.step HG1.out HG9.out) HB.out.size)⟩
  | true =>
    cases F2 with
    | false =>
      as_aux_lemma =>
      clear okx oky okz okt HS1 HS2
      go_wp2_with (first
        | (go_at_call 14; (with_reducible refine (HF1.out _ (Grew.refl _)).mono ?_); rintro e w1 ⟨rfl, hb⟩; have HG1 := Lib.hid (show Grew W w1 from hb); clear HF1; have m7 := (HM.out.grew hb).cell (i := 7) rfl; have m8 := (HM.out.grew hb).cell (i := 8) rfl; have m9 := (HM.out.grew hb).cell (i := 9) rfl; have m10 := (HM.out.grew hb).cell (i := 10) rfl; have m11 := (HM.out.grew hb).cell (i := 11) rfl; have m12 := (HM.out.grew hb).cell (i := 12) rfl; have m13 := (HM.out.grew hb).cell (i := 13) rfl; clear hb)
        | (go_at_call 14; (with_reducible refine (HF2.out _ HG1.out).mono ?_); rintro e w2 ⟨rfl, hb⟩; have HG2 := Lib.hid (Grew.step HG1.out hb); clear HF2; have n0 := (HN.out.grew HG2.out).cell (i := 0) rfl; have n1 := (HN.out.grew HG2.out).cell (i := 1) rfl; have n2 := (HN.out.grew HG2.out).cell (i := 2) rfl; have n3 := (HN.out.grew HG2.out).cell (i := 3) rfl; have n4 := (HN.out.grew HG2.out).cell (i := 4) rfl; clear hb)
        | (go_at_call 10; (with_reducible refine (HA.out _).mono ?_); rintro e w9 ⟨rfl, hb⟩; have HG9 := Lib.hid hb; clear hb))
      go_ret
      exact ⟨rfl, HB.out.trans (Below.mono (Grew.step HG2.out HG9.out) HB.out.size)⟩
    | true =>
      cases F3 with
      | false =>
        as_aux_lemma =>
        clear okx oky okz okt HS2
        go_wp2_with (first
          | (go_at_call 14; (with_reducible refine (HF1.out _ (Grew.refl _)).mono ?_); rintro e w1 ⟨rfl, hb⟩; have HG1 := Lib.hid (show Grew W w1 from hb); clear HF1; have m7 := (HM.out.grew hb).cell (i := 7) rfl; have m8 := (HM.out.grew hb).cell (i := 8) rfl; have m9 := (HM.out.grew hb).cell (i := 9) rfl; have m10 := (HM.out.grew hb).cell (i := 10) rfl; have m11 := (HM.out.grew hb).cell (i := 11) rfl; have m12 := (HM.out.grew hb).cell (i := 12) rfl; have m13 := (HM.out.grew hb).cell (i := 13) rfl; clear hb)
          | (go_at_call 14; (with_reducible refine (HF2.out _ HG1.out).mono ?_); rintro e w2 ⟨rfl, hb⟩; have HG2 := Lib.hid (Grew.step HG1.out hb); clear HF2; have n0 := (HN.out.grew HG2.out).cell (i := 0) rfl; have n1 := (HN.out.grew HG2.out).cell (i := 1) rfl; have n2 := (HN.out.grew HG2.out).cell (i := 2) rfl; have n3 := (HN.out.grew HG2.out).cell (i := 3) rfl; have n4 := (HN.out.grew HG2.out).cell (i := 4) rfl; clear hb)
          | (go_at_call 19; (with_reducible refine (HS1.out _ HG2.out).mono ?_); rintro e w3 ⟨rfl, hb⟩; have HG3 := Lib.hid (Grew.step HG2.out hb); clear HS1; have n5 := (HN.out.grew HG3.out).cell (i := 5) rfl; have n6 := (HN.out.grew HG3.out).cell (i := 6) rfl; have n7 := (HN.out.grew HG3.out).cell (i := 7) rfl; have n8 := (HN.out.grew HG3.out).cell (i := 8) rfl; have n9 := (HN.out.grew HG3.out).cell (i := 9) rfl; clear hb)
          | (go_at_call 10; (with_reducible refine (HA.out _).mono ?_); rintro e w9 ⟨rfl, hb⟩; have HG9 := Lib.hid hb; clear hb))
        go_ret
        exact ⟨rfl, HB.out.trans (Below.mono (Grew.step HG3.out HG9.out) HB.out.size)⟩
      | true =>
        cases F4 with
        | false =>
          as_aux_lemma =>
          clear okx oky okz okt
          go_wp2_with (first
            | (go_at_call 14; (with_reducible refine (HF1.out _ (Grew.refl _)).mono ?_); rintro e w1 ⟨rfl, hb⟩; have HG1 := Lib.hid (show Grew W w1 from hb); clear HF1; have m7 := (HM.out.grew hb).cell (i := 7) rfl; have m8 := (HM.out.grew hb).cell (i := 8) rfl; have m9 := (HM.out.grew hb).cell (i := 9) rfl; have m10 := (HM.out.grew hb).cell (i := 10) rfl; have m11 := (HM.out.grew hb).cell (i := 11) rfl; have m12 := (HM.out.grew hb).cell (i := 12) rfl; have m13 := (HM.out.grew hb).cell (i := 13) rfl; clear hb)
            | (go_at_call 14; (with_reducible refine (HF2.out _ HG1.out).mono ?_); rintro e w2 ⟨rfl, hb⟩; have HG2 := Lib.hid (Grew.step HG1.out hb); clear HF2; have n0 := (HN.out.grew HG2.out).cell (i := 0) rfl; have n1 := (HN.out.grew HG2.out).cell (i := 1) rfl; have n2 := (HN.out.grew HG2.out).cell (i := 2) rfl; have n3 := (HN.out.grew HG2.out).cell (i := 3) rfl; have n4 := (HN.out.grew HG2.out).cell (i := 4) rfl; clear hb)
            | (go_at_call 19; (with_reducible refine (HS1.out _ HG2.out).mono ?_); rintro e w3 ⟨rfl, hb⟩; have HG3 := Lib.hid (Grew.step HG2.out hb); clear HS1; have n5 := (HN.out.grew HG3.out).cell (i := 5) rfl; have n6 := (HN.out.grew HG3.out).cell (i := 6) rfl; have n7 := (HN.out.grew HG3.out).cell (i := 7) rfl; have n8 := (HN.out.grew HG3.out).cell (i := 8) rfl; have n9 := (HN.out.grew HG3.out).cell (i := 9) rfl; clear hb)
            | (go_at_call 19; (with_reducible refine (HS2.out _ HG3.out).mono ?_); rintro e w4 ⟨rfl, hb⟩; have HG4 := Lib.hid (Grew.step HG3.out hb); clear HS2 hb)
            | (go_at_call 10; (with_reducible refine (HA.out _).mono ?_); rintro e w9 ⟨rfl, hb⟩; have HG9 := Lib.hid hb; clear hb))
          go_ret
          exact ⟨rfl, HB.out.trans (Below.mono (Grew.step HG4.out HG9.out) HB.out.size)⟩
        | true =>
          obtain ⟨ox, lx⟩ := okx rfl
          obtain ⟨oy, ly⟩ := oky rfl
          obtain ⟨oz, lz⟩ := okz rfl
          obtain ⟨ot, lt⟩ := okt rfl
          have i1 : i64 1 := by unfold i64; omega
          have l1 := numI_len 1 i1
          have l0 := numI_len 0 (by unfold i64; omega)
          have dx : (askL 1 1 x).length ≤ 140737488355328 := by unfold askL; simp only [List.length_append]; omega
          have dy : (askL 1 1 y).length ≤ 140737488355328 := by unfold askL; simp only [List.length_append]; omega
          have HI := Lib.hid (fun h : askL 1 1 x = askL 1 1 y => ask_inj ox oy h)
          have HJ := Lib.hid (fun h : rsC.enc z = rsC.enc t => rsC.inj oz ot h)
          have HAX := Lib.hid (fun X (hX : Grew W X) => ask_any 1 1 i1 i1 x ox (.slice a1 x.cmp.length p1) (.slice a2 x.thn.length p2) (.slice a3 x.els.length p3) dx X (HXW.out.grew hX))
          have HAY := Lib.hid (fun X (hX : Grew W X) => ask_any 1 1 i1 i1 y oy (.slice b1 y.cmp.length q1) (.slice b2 y.thn.length q2) (.slice b3 y.els.length q3) dy X (HYW.out.grew hX))
          have HAZ := Lib.hid (fun X (hX : Grew W X) => answers_any z oz (.slice c L.length k) L (by omega) X (HZW.out.grew hX))
          have HAT := Lib.hid (fun X (hX : Grew W X) => answers_any t ot (.slice d M.length l) M (by omega) X (HTW.out.grew hX))
          have HQX := Lib.hid (fun X (hX : Grew W X) => HQ1.out X (HXW.out.grew hX) (HYW.out.grew hX))
          have HQY := Lib.hid (fun X (hX : Grew W X) => HQ2.out X (HZW.out.grew hX) (HTW.out.grew hX))
          unfold rqV at HAX HAY HQX
          unfold rsV at HAZ HAT HQY
          clear okx oky okz okt ox oy oz ot lx ly lz lt i1 l1 l0 dx dy HQ1 HQ2
          have HPX := Lib.hid (fun h : x = y => congrArg (askL 1 1) h.symm)
          have HPZ := Lib.hid (fun h : z = t => congrArg rsC.enc h.symm)
          generalize askL 1 1 x = P at *
          generalize askL 1 1 y = P2 at *
          generalize rsC.enc z = Q at *
          generalize rsC.enc t = Q2 at *
          go_upto_region 3 with (first
            | (go_at_call 14; (with_reducible refine (HF1.out _ (Grew.refl _)).mono ?_); rintro e w1 ⟨rfl, hb⟩; have HG1 := Lib.hid (show Grew W w1 from hb); clear HF1; have m7 := (HM.out.grew hb).cell (i := 7) rfl; have m8 := (HM.out.grew hb).cell (i := 8) rfl; have m9 := (HM.out.grew hb).cell (i := 9) rfl; have m10 := (HM.out.grew hb).cell (i := 10) rfl; have m11 := (HM.out.grew hb).cell (i := 11) rfl; have m12 := (HM.out.grew hb).cell (i := 12) rfl; have m13 := (HM.out.grew hb).cell (i := 13) rfl; clear hb)
            | (go_at_call 14; (with_reducible refine (HF2.out _ HG1.out).mono ?_); rintro e w2 ⟨rfl, hb⟩; have HG2 := Lib.hid (Grew.step HG1.out hb); clear HF2; have n0 := (HN.out.grew HG2.out).cell (i := 0) rfl; have n1 := (HN.out.grew HG2.out).cell (i := 1) rfl; have n2 := (HN.out.grew HG2.out).cell (i := 2) rfl; have n3 := (HN.out.grew HG2.out).cell (i := 3) rfl; have n4 := (HN.out.grew HG2.out).cell (i := 4) rfl; clear hb)
            | (go_at_call 19; (with_reducible refine (HS1.out _ HG2.out).mono ?_); rintro e w3 ⟨rfl, hb⟩; have HG3 := Lib.hid (Grew.step HG2.out hb); clear HS1; have n5 := (HN.out.grew HG3.out).cell (i := 5) rfl; have n6 := (HN.out.grew HG3.out).cell (i := 6) rfl; have n7 := (HN.out.grew HG3.out).cell (i := 7) rfl; have n8 := (HN.out.grew HG3.out).cell (i := 8) rfl; have n9 := (HN.out.grew HG3.out).cell (i := 9) rfl; clear hb)
            | (go_at_call 19; (with_reducible refine (HS2.out _ HG3.out).mono ?_); rintro e w4 ⟨rfl, hb⟩; have HG4 := Lib.hid (Grew.step HG3.out hb); clear HS2 hb))
          have HM4 := Lib.hid (HM.out.grew HG4.out)
          have HQ4 := Lib.hid (fun X (hX : Grew w4 X) => HQX.out X (Grew.trans HG4.out hX))
          have HA1 := Lib.hid (fun X (hX : Grew w4 X) => HAX.out X (Grew.trans HG4.out hX))
          have HA2 := Lib.hid (fun X (hX : Grew w4 X) => HAY.out X (Grew.trans HG4.out hX))
          clear m7 m8 m9 m10 m11 m12 m13 n0 n1 n2 n3 n4 n5 n6 n7 n8 n9
          go_cut [5] (fun s5 wx => s5 = .bool true ∧ Grew w4 wx)
          case first =>
            by_cases hxy : x = y
            · have e1 : decide (x = y) = true := decide_eq_true hxy
              rw [e1] at HQ4
              have hP : P2 = P := HPX.out hxy
              subst hP
              clear hxy e1
              have hex := Grew.all w4
              refine wp_region_grew (by kernel_rfl) (by kernel_rfl) ?_
              repeat (first | go_big_quiet_skip | (go_big_quiet_want; first | (refine quiet_load_mid 26 _ rfl w.heap.size 0 rfl [.int .i64 x.kind, .slice a1 x.cmp.length p1, .slice a2 x.thn.length p2, .slice a3 x.els.length p3, .int .i64 x.rev, .int .i64 x.lease, .int .i64 x.ticks] _ (fun W hW => range7 ((HM4.out.grew hW).cell (i := 0) rfl) ((HM4.out.grew hW).cell (i := 1) rfl) ((HM4.out.grew hW).cell (i := 2) rfl) ((HM4.out.grew hW).cell (i := 3) rfl) ((HM4.out.grew hW).cell (i := 4) rfl) ((HM4.out.grew hW).cell (i := 5) rfl) ((HM4.out.grew hW).cell (i := 6) rfl)) Try.underlying26 rfl (by kernel_rfl) ?_; simp only [Act.put, List.setIfInBounds_toArray, List.set_cons_succ, List.set_cons_zero]; go_big_quiet_on) | (refine quiet_load_mid 26 _ rfl w.heap.size 7 rfl [.int .i64 y.kind, .slice b1 y.cmp.length q1, .slice b2 y.thn.length q2, .slice b3 y.els.length q3, .int .i64 y.rev, .int .i64 y.lease, .int .i64 y.ticks] _ (fun W hW => range7 ((HM4.out.grew hW).cell (i := 7) rfl) ((HM4.out.grew hW).cell (i := 8) rfl) ((HM4.out.grew hW).cell (i := 9) rfl) ((HM4.out.grew hW).cell (i := 10) rfl) ((HM4.out.grew hW).cell (i := 11) rfl) ((HM4.out.grew hW).cell (i := 12) rfl) ((HM4.out.grew hW).cell (i := 13) rfl)) Try.underlying26 rfl (by kernel_rfl) ?_; simp only [Act.put, List.setIfInBounds_toArray, List.set_cons_succ, List.set_cons_zero]; go_big_quiet_on) | (go_big_quiet_op; first | go_big_quiet_on | (apply Exists.intro; refine ⟨fun W hW => ?_, ?_⟩; (first | exact rfl | (go_at_call 22; with_reducible exact Calls.grew hW (HQ4.out _ hW)) | (go_at_call 15; with_reducible exact Calls.grew hW (HA1.out _ hW)) | (go_at_call 15; with_reducible exact Calls.grew hW (HA2.out _ hW))); go_big_quiet_on))))
              refine wpQuiet_nil ?_
              intro w5 hw5
              clear hex
              go_wp2
              go_meet
              exact ⟨rfl, hw5⟩
            · have e1 : decide (x = y) = false := decide_eq_false hxy
              rw [e1] at HQ4
              have f1 := str_ne (fun h => hxy (HI.out h))
              have f3 := str_ne3 (fun h => hxy (HI.out h))
              clear hxy e1
              have hex := Grew.all w4
              refine wp_region_grew (by kernel_rfl) (by kernel_rfl) ?_
              repeat (first | go_big_quiet_skip | (go_big_quiet_want; first | (refine quiet_load_mid 26 _ rfl w.heap.size 0 rfl [.int .i64 x.kind, .slice a1 x.cmp.length p1, .slice a2 x.thn.length p2, .slice a3 x.els.length p3, .int .i64 x.rev, .int .i64 x.lease, .int .i64 x.ticks] _ (fun W hW => range7 ((HM4.out.grew hW).cell (i := 0) rfl) ((HM4.out.grew hW).cell (i := 1) rfl) ((HM4.out.grew hW).cell (i := 2) rfl) ((HM4.out.grew hW).cell (i := 3) rfl) ((HM4.out.grew hW).cell (i := 4) rfl) ((HM4.out.grew hW).cell (i := 5) rfl) ((HM4.out.grew hW).cell (i := 6) rfl)) Try.underlying26 rfl (by kernel_rfl) ?_; simp only [Act.put, List.setIfInBounds_toArray, List.set_cons_succ, List.set_cons_zero]; go_big_quiet_on) | (refine quiet_load_mid 26 _ rfl w.heap.size 7 rfl [.int .i64 y.kind, .slice b1 y.cmp.length q1, .slice b2 y.thn.length q2, .slice b3 y.els.length q3, .int .i64 y.rev, .int .i64 y.lease, .int .i64 y.ticks] _ (fun W hW => range7 ((HM4.out.grew hW).cell (i := 7) rfl) ((HM4.out.grew hW).cell (i := 8) rfl) ((HM4.out.grew hW).cell (i := 9) rfl) ((HM4.out.grew hW).cell (i := 10) rfl) ((HM4.out.grew hW).cell (i := 11) rfl) ((HM4.out.grew hW).cell (i := 12) rfl) ((HM4.out.grew hW).cell (i := 13) rfl)) Try.underlying26 rfl (by kernel_rfl) ?_; simp only [Act.put, List.setIfInBounds_toArray, List.set_cons_succ, List.set_cons_zero]; go_big_quiet_on) | (go_big_quiet_op; first | go_big_quiet_on | (apply Exists.intro; refine ⟨fun W hW => ?_, ?_⟩; (first | exact rfl | (go_at_call 22; with_reducible exact Calls.grew hW (HQ4.out _ hW)) | (go_at_call 15; with_reducible exact Calls.grew hW (HA1.out _ hW)) | (go_at_call 15; with_reducible exact Calls.grew hW (HA2.out _ hW))); go_big_quiet_on))))
              refine wpQuiet_nil ?_
              intro w5 hw5
              clear hex
              go_wp2
              go_meet
              exact ⟨rfl, hw5⟩
          case rest =>
            obtain ⟨rfl, hG5⟩ := hcut
            have HG5 := Lib.hid (Grew.trans HG4.out hG5)
            clear HM4 HQ4 HA1 HA2 hG5
            have HN5 := Lib.hid (HN.out.grew HG5.out)
            have HQ5 := Lib.hid (fun X (hX : Grew wc X) => HQY.out X (Grew.trans HG5.out hX))
            have HA3 := Lib.hid (fun X (hX : Grew wc X) => HAZ.out X (Grew.trans HG5.out hX))
            have HA4 := Lib.hid (fun X (hX : Grew wc X) => HAT.out X (Grew.trans HG5.out hX))
            go_upto_region 4 with (fail)
            by_cases hzt : z = t
            · have e1 : decide (z = t) = true := decide_eq_true hzt
              rw [e1] at HQ5
              have hP : Q2 = Q := HPZ.out hzt
              subst hP
              clear hzt e1
              have hex := Grew.all wc
              refine wp_region_grew (by kernel_rfl) (by kernel_rfl) ?_
              repeat (first | go_big_quiet_skip | (go_big_quiet_want; first | (refine quiet_load_mid 48 _ rfl (w.heap.size + 1) 0 rfl [.int .i64 z.err, .int .i64 z.rev, .bool z.thn, .slice c L.length k, .int .i64 z.ticks] _ (fun W hW => range5 ((HN5.out.grew hW).cell (i := 0) rfl) ((HN5.out.grew hW).cell (i := 1) rfl) ((HN5.out.grew hW).cell (i := 2) rfl) ((HN5.out.grew hW).cell (i := 3) rfl) ((HN5.out.grew hW).cell (i := 4) rfl)) Try.underlying48 rfl (by kernel_rfl) ?_; simp only [Act.put, List.setIfInBounds_toArray, List.set_cons_succ, List.set_cons_zero]; go_big_quiet_on) | (refine quiet_load_mid 48 _ rfl (w.heap.size + 1) 5 rfl [.int .i64 t.err, .int .i64 t.rev, .bool t.thn, .slice d M.length l, .int .i64 t.ticks] _ (fun W hW => range5 ((HN5.out.grew hW).cell (i := 5) rfl) ((HN5.out.grew hW).cell (i := 6) rfl) ((HN5.out.grew hW).cell (i := 7) rfl) ((HN5.out.grew hW).cell (i := 8) rfl) ((HN5.out.grew hW).cell (i := 9) rfl)) Try.underlying48 rfl (by kernel_rfl) ?_; simp only [Act.put, List.setIfInBounds_toArray, List.set_cons_succ, List.set_cons_zero]; go_big_quiet_on) | (go_big_quiet_op; first | go_big_quiet_on | (apply Exists.intro; refine ⟨fun W hW => ?_, ?_⟩; (first | exact rfl | (go_at_call 23; with_reducible exact Calls.grew hW (HQ5.out _ hW)) | (go_at_call 20; with_reducible exact Calls.grew hW (HA3.out _ hW)) | (go_at_call 20; with_reducible exact Calls.grew hW (HA4.out _ hW)) | (go_at_call 10; with_reducible exact Calls.grew hW (HA.out _))); go_big_quiet_on))))
              refine wpQuiet_nil ?_
              intro w6 hw6
              have hb6 : Below wc.heap.size wc w6 := hw6
              clear hex
              go_wp2
              go_ret
              exact ⟨rfl, HB.out.trans (Below.mono (Grew.step HG5.out hb6) HB.out.size)⟩
            · have e1 : decide (z = t) = false := decide_eq_false hzt
              rw [e1] at HQ5
              have f1 := str_ne (fun h => hzt (HJ.out h))
              have f3 := str_ne3 (fun h => hzt (HJ.out h))
              clear hzt e1
              have hex := Grew.all wc
              refine wp_region_grew (by kernel_rfl) (by kernel_rfl) ?_
              repeat (first | go_big_quiet_skip | (go_big_quiet_want; first | (refine quiet_load_mid 48 _ rfl (w.heap.size + 1) 0 rfl [.int .i64 z.err, .int .i64 z.rev, .bool z.thn, .slice c L.length k, .int .i64 z.ticks] _ (fun W hW => range5 ((HN5.out.grew hW).cell (i := 0) rfl) ((HN5.out.grew hW).cell (i := 1) rfl) ((HN5.out.grew hW).cell (i := 2) rfl) ((HN5.out.grew hW).cell (i := 3) rfl) ((HN5.out.grew hW).cell (i := 4) rfl)) Try.underlying48 rfl (by kernel_rfl) ?_; simp only [Act.put, List.setIfInBounds_toArray, List.set_cons_succ, List.set_cons_zero]; go_big_quiet_on) | (refine quiet_load_mid 48 _ rfl (w.heap.size + 1) 5 rfl [.int .i64 t.err, .int .i64 t.rev, .bool t.thn, .slice d M.length l, .int .i64 t.ticks] _ (fun W hW => range5 ((HN5.out.grew hW).cell (i := 5) rfl) ((HN5.out.grew hW).cell (i := 6) rfl) ((HN5.out.grew hW).cell (i := 7) rfl) ((HN5.out.grew hW).cell (i := 8) rfl) ((HN5.out.grew hW).cell (i := 9) rfl)) Try.underlying48 rfl (by kernel_rfl) ?_; simp only [Act.put, List.setIfInBounds_toArray, List.set_cons_succ, List.set_cons_zero]; go_big_quiet_on) | (go_big_quiet_op; first | go_big_quiet_on | (apply Exists.intro; refine ⟨fun W hW => ?_, ?_⟩; (first | exact rfl | (go_at_call 23; with_reducible exact Calls.grew hW (HQ5.out _ hW)) | (go_at_call 20; with_reducible exact Calls.grew hW (HA3.out _ hW)) | (go_at_call 20; with_reducible exact Calls.grew hW (HA4.out _ hW)) | (go_at_call 10; with_reducible exact Calls.grew hW (HA.out _))); go_big_quiet_on))))
              refine wpQuiet_nil ?_
              intro w6 hw6
              have hb6 : Below wc.heap.size wc w6 := hw6
              clear hex
              go_wp2
              go_ret
              exact ⟨rfl, HB.out.trans (Below.mono (Grew.step HG5.out hb6) HB.out.size)⟩
/-- THE LAW TalkApart. -/
theorem talkApart_walk (W : World) (v0 v1 : Value)
    (h0 : ∃ (y1 : Req) (s1 s2 s3 : Value) (y2 : Req) (t1 t2 t3 : Value), v0 = .agg (rqV y1 s1 s2 s3 ++ rqV y2 t1 t2 t3).toArray ∧ (RqAt W y1 s1 s2 s3 ∧ y1.int ∧ y1.sz) ∧ (RqAt W y2 t1 t2 t3 ∧ y2.int ∧ y2.sz))
    (h1 : ∃ (y1 : Res) (s1 : Value) (L1 : List (Ans × Value)) (y2 : Res) (s2 : Value) (L2 : List (Ans × Value)), v1 = .agg (rsV y1 s1 ++ rsV y2 s2).toArray ∧ (RsAt W y1 s1 L1 ∧ y1.int ∧ y1.sz) ∧ (RsAt W y2 s2 L2 ∧ y2.int ∧ y2.sz)) :
    Calls Try.prog 7 #[v0, v1] W fun e w' => e = .returned (.bool true) ∧ Below W.heap.size W w' := by
  obtain ⟨x, s1, s2, s3, y, u1, u2, u3, rfl, ⟨hx, ix, zx⟩, hy, iy, zy⟩ := h0
  obtain ⟨z, s, L, t, u, M, rfl, ⟨hz, iz, zz⟩, ht, it, zt⟩ := h1
  exact apart_law x y s1 s2 s3 u1 u2 u3 z t s u L M W hx hy hz ht ix iy iz it zx zy zz zt
end Go.Proofs.Ytlcblkmmkphpmaa
