/- The law TalkBack walked. Printed by gen/genTalT.py. Conditions: as each theorem says. -/
import Derived.Test.YtlcblkmmkphpmaaTalM
import Derived.Test.YtlcblkmmkphpmaaTalQa
namespace Go.Proofs.Ytlcblkmmkphpmaa
open Go.RowKit

def AskdAt (g : Nat) (x : Askd) (w : World) : Prop := ∃ b1 c1 b2 c2 b3 c3, BlkAt g 30 (askdV x (.slice b1 x.req.cmp.length c1) (.slice b2 x.req.thn.length c2) (.slice b3 x.req.els.length c3)) w ∧ RqAt w x.req (.slice b1 x.req.cmp.length c1) (.slice b2 x.req.thn.length c2) (.slice b3 x.req.els.length c3)
def ResAt (g : Nat) (x : Res) (w : World) : Prop := ∃ b c D, BlkAt g 48 (rsV x (.slice b D.length c)) w ∧ RsAt w x (.slice b D.length c) D
theorem parse_zero (l : Byt) (h : (parseL l).1.reads = true) : (parseL l).1.req = zeroReq := by
  unfold parseL at h ⊢
  by_cases he : endR (askR ⟨l, 0⟩).2 = 0
  · rw [if_pos he] at h ⊢
    simp only at h ⊢
    unfold askR at h ⊢
    by_cases hf : (flagR (numR (numR ⟨l, 0⟩).2).2).1 = true
    · rw [if_pos hf]
    · rw [if_neg hf] at h; exact absurd h (by simp)
  · rw [if_neg he]; rfl
set_option maxRecDepth 100000 in
set_option maxHeartbeats 20000000 in
theorem back_law (x : Req) (s1 s2 s3 : Value) (z : Res) (s : Value) (L : List (Ans × Value)) (dt : Byt) (w : World) (hx : RqAt w x s1 s2 s3) (hz : RsAt w z s L) (ix : x.int) (iz : z.int) (zx : x.sz) (zz : z.sz) (hd : dt.length ≤ M63) :
    Calls Try.prog 9 #[.agg (rqV x s1 s2 s3).toArray, .agg (rsV z s).toArray, .string (bs dt)] w fun e w' => e = .returned (.bool true) ∧ Below w.heap.size w w' := by
  have fx := fun X hX => lfew_any x s1 s2 s3 X hX zx
  have fz := fun X hX => lsome_any z s L X hX zz
  have okx := fun hf : fewRq x = true => rq_ok hf ix
  have okz := fun hf : fewRs z = true => rs_ok hf iz
  obtain ⟨a1, p1, rfl⟩ := hx.h1.form
  obtain ⟨a2, p2, rfl⟩ := hx.h2.form
  obtain ⟨a3, p3, rfl⟩ := hx.h3.form
  obtain ⟨c1, k1, rfl⟩ := hz.h1.form
  generalize fewRq x = F1 at *
  generalize fewRs z = F2 at *
  obtain ⟨W, hW, hB, k0, kk⟩ := boxes2 w 26 48 [.int .i64 x.kind, .slice a1 x.cmp.length p1, .slice a2 x.thn.length p2, .slice a3 x.els.length p3, .int .i64 x.rev, .int .i64 x.lease, .int .i64 x.ticks] [.int .i64 z.err, .int .i64 z.rev, .bool z.thn, .slice c1 L.length k1, .int .i64 z.ticks]
  have HXW := Lib.hid (hx.grew hB)
  have HZW := Lib.hid (hz.grew hB)
  have HF1 := Lib.hid (fun X (hX : Grew W X) => fx X (HXW.out.grew hX))
  have HF2 := Lib.hid (fun X (hX : Grew W X) => fz X (HZW.out.grew hX))
  have HQ1 := Lib.hid (fun X b1 b2 b3 q1 q2 q3 (hX : Grew W X) (h : RqAt X x (.slice b1 x.cmp.length q1) (.slice b2 x.thn.length q2) (.slice b3 x.els.length q3)) => sameReq_any x x (.slice b1 x.cmp.length q1) (.slice b2 x.thn.length q2) (.slice b3 x.els.length q3) (.slice a1 x.cmp.length p1) (.slice a2 x.thn.length p2) (.slice a3 x.els.length p3) X h (HXW.out.grew hX) zx zx)
  have HQ2 := Lib.hid (fun X b q D (hX : Grew W X) (h : RsAt X z (.slice b D.length q) D) => sameRes_any z z (.slice b D.length q) (.slice c1 L.length k1) D L X h (HZW.out.grew hX) zz zz)
  simp only [decide_true] at HQ1 HQ2
  have HB := Lib.hid hB
  have HW := Lib.hid hW
  have HM := Lib.hid k0
  have HN := Lib.hid kk
  have HA := Lib.hid (fun X => awake_any X)
  have zd : (bs dt).size ≤ 9223372036854775807 := by rw [bs_size]; exact hd
  clear hx hz hW hB k0 kk fx fz ix iz zx zz
  unfold rqV rsV at *
  have m0 := HM.out.cell (i := 0) rfl
  have m1 := HM.out.cell (i := 1) rfl
  have m2 := HM.out.cell (i := 2) rfl
  have m3 := HM.out.cell (i := 3) rfl
  have m4 := HM.out.cell (i := 4) rfl
  have m5 := HM.out.cell (i := 5) rfl
  have m6 := HM.out.cell (i := 6) rfl
  go_enter Try.func9, Try.ntmps9
  go_upto_region 1 with (fail)
  rw [← HW.out]
  clear HW
  cases F1 with
  | false =>
    as_aux_lemma =>
    clear okx okz HF2
    go_wp2_with (first
      | (go_at_call 14; (with_reducible refine (HF1.out _ (Grew.refl _)).mono ?_); rintro e w1 ⟨rfl, hb⟩; have HG1 := Lib.hid (show Grew W w1 from hb); clear HF1; have n0 := (HN.out.grew hb).cell (i := 0) rfl; have n1 := (HN.out.grew hb).cell (i := 1) rfl; have n2 := (HN.out.grew hb).cell (i := 2) rfl; have n3 := (HN.out.grew hb).cell (i := 3) rfl; have n4 := (HN.out.grew hb).cell (i := 4) rfl; clear hb)
      | (go_at_call 10; (with_reducible refine (HA.out _).mono ?_); rintro e w9 ⟨rfl, hb⟩; have HG9 := Lib.hid hb; clear hb))
    go_ret
    exact ⟨rfl, HB.out.trans (Below.mono (Grew.step HG1.out HG9.out) HB.out.size)⟩
  | true =>
    cases F2 with
    | false =>
      as_aux_lemma =>
      clear okx okz
      go_wp2_with (first
        | (go_at_call 14; (with_reducible refine (HF1.out _ (Grew.refl _)).mono ?_); rintro e w1 ⟨rfl, hb⟩; have HG1 := Lib.hid (show Grew W w1 from hb); clear HF1; have n0 := (HN.out.grew hb).cell (i := 0) rfl; have n1 := (HN.out.grew hb).cell (i := 1) rfl; have n2 := (HN.out.grew hb).cell (i := 2) rfl; have n3 := (HN.out.grew hb).cell (i := 3) rfl; have n4 := (HN.out.grew hb).cell (i := 4) rfl; clear hb)
        | (go_at_call 19; (with_reducible refine (HF2.out _ HG1.out).mono ?_); rintro e w2 ⟨rfl, hb⟩; have HG2 := Lib.hid (Grew.step HG1.out hb); clear HF2 hb)
        | (go_at_call 10; (with_reducible refine (HA.out _).mono ?_); rintro e w9 ⟨rfl, hb⟩; have HG9 := Lib.hid hb; clear hb))
      go_ret
      exact ⟨rfl, HB.out.trans (Below.mono (Grew.step HG2.out HG9.out) HB.out.size)⟩
    | true =>
      by_cases h20 : dt.length ≤ 20000
      · have t2 : decide ((20000 : Int) < ((bs dt).size : Int)) = false := decide_eq_false (by rw [bs_size]; omega)
        obtain ⟨ox, lx⟩ := okx rfl
        obtain ⟨oz, lz⟩ := okz rfl
        have ic : i64 ((bs dt).size : Int) := by unfold i64; rw [bs_size]; omega
        have l1 := numI_len ((bs dt).size : Int) ic
        have l2 := numI_len x.kind ox.1
        have l0 := numI_len 0 i64_0
        have dx : (askL ((bs dt).size : Int) x.kind x).length ≤ 1000000 := by unfold askL; simp only [List.length_append]; omega
        have hpa := parse_ask ((bs dt).size : Int) x.kind ic ox.1 x ox
        have hha := hear_back z oz
        have HAX := Lib.hid (fun X (hX : Grew W X) => ask_any ((bs dt).size : Int) x.kind ic ox.1 x ox (.slice a1 x.cmp.length p1) (.slice a2 x.thn.length p2) (.slice a3 x.els.length p3) (by omega) X (HXW.out.grew hX))
        have HPX := Lib.hid (fun X => parse_any (askL ((bs dt).size : Int) x.kind x) (by omega) X)
        rw [hpa] at HPX
        have HAZ := Lib.hid (fun X (hX : Grew W X) => answers_any z oz (.slice c1 L.length k1) L (by omega) X (HZW.out.grew hX))
        have HHZ := Lib.hid (fun X => hear_any (rsC.enc z) (by omega) X)
        rw [hha] at HHZ
        unfold rqV at HAX
        unfold rsV at HAZ
        clear okx okz ox oz lx lz ic l1 l2 l0 dx hpa hha
        generalize askL ((bs dt).size : Int) x.kind x = P at *
        generalize rsC.enc z = Q at *
        go_upto_region 3 with (first
          | (go_at_call 14; (with_reducible refine (HF1.out _ (Grew.refl _)).mono ?_); rintro e w1 ⟨rfl, hb⟩; have HG1 := Lib.hid (show Grew W w1 from hb); clear HF1; have n0 := (HN.out.grew hb).cell (i := 0) rfl; have n1 := (HN.out.grew hb).cell (i := 1) rfl; have n2 := (HN.out.grew hb).cell (i := 2) rfl; have n3 := (HN.out.grew hb).cell (i := 3) rfl; have n4 := (HN.out.grew hb).cell (i := 4) rfl; clear hb)
          | (go_at_call 19; (with_reducible refine (HF2.out _ HG1.out).mono ?_); rintro e w2 ⟨rfl, hb⟩; have HG2 := Lib.hid (Grew.step HG1.out hb); clear HF2 hb))
        have HG2' := HG2
        have m0 := (HM.out.grew HG2.out).cell (i := 0) rfl
        have m1 := (HM.out.grew HG2.out).cell (i := 1) rfl
        have m2 := (HM.out.grew HG2.out).cell (i := 2) rfl
        have m3 := (HM.out.grew HG2.out).cell (i := 3) rfl
        have m4 := (HM.out.grew HG2.out).cell (i := 4) rfl
        have m5 := (HM.out.grew HG2.out).cell (i := 5) rfl
        have m6 := (HM.out.grew HG2.out).cell (i := 6) rfl
        go_cut [7, 8] (fun s7 s8 wx => ∃ g, s7 = .pointer (some ⟨g, 0, none⟩) ∧ s8 = .int .i64 0 ∧ AskdAt g ⟨((bs dt).size : Int), x.kind, false, x, zeroRg⟩ wx ∧ Grew W wx)
        case first =>
          as_aux_lemma =>
          go_wp2_with (first
            | (go_at_call 15; (with_reducible refine (HAX.out _ HG2.out).mono ?_); rintro e w3 ⟨rfl, hb⟩; have HG3 := Lib.hid (Grew.step HG2.out hb); clear hb)
            | (go_at_call 11; (with_reducible refine (HPX.out _).mono ?_); rintro e w4 ⟨u1, u2, u3, rfl, hR, hb⟩; obtain ⟨b1, q1, rfl⟩ := hR.h1.form; obtain ⟨b2, q2, rfl⟩ := hR.h2.form; obtain ⟨b3, q3, rfl⟩ := hR.h3.form; have HG4 := Lib.hid (Grew.step HG3.out hb); have HR := Lib.hid hR; clear hb hR; unfold askdV zeroRg at *; simp only at *))
          go_meet
          exact ⟨_, rfl, rfl, ⟨_, _, _, _, _, _, BlkAt.alloc_new _ _ _, RqAt.grew HR.out (alloc_below _ _)⟩, HG4.out.al _⟩
        case rest =>
          obtain ⟨g, rfl, rfl, hAt, hGa⟩ := hcut
          have HAT := Lib.hid hAt
          have HGA := Lib.hid hGa
          clear hAt hGa HAX HPX m0 m1 m2 m3 m4 m5 m6 n0 n1 n2 n3 n4
          have n0 := (HN.out.grew HGA.out).cell (i := 0) rfl
          have n1 := (HN.out.grew HGA.out).cell (i := 1) rfl
          have n2 := (HN.out.grew HGA.out).cell (i := 2) rfl
          have n3 := (HN.out.grew HGA.out).cell (i := 3) rfl
          have n4 := (HN.out.grew HGA.out).cell (i := 4) rfl
          go_upto_region 4 with (fail)
          go_cut [9, 10] (fun s9 s10 wx => ∃ g2, s9 = .pointer (some ⟨g2, 0, none⟩) ∧ s10 = .int .i64 0 ∧ ResAt g2 z wx ∧ Grew wc wx)
          case first =>
            as_aux_lemma =>
            clear HAT
            go_wp2_with (first
              | (go_at_call 20; (with_reducible refine (HAZ.out _ HGA.out).mono ?_); rintro e w3 ⟨rfl, hb⟩; have HG3 := Lib.hid (show Grew wc w3 from hb); clear hb)
              | (go_at_call 24; (with_reducible refine (HHZ.out _).mono ?_); rintro e w4 ⟨u1, D, rfl, hR, hb⟩; obtain ⟨b1, q1, rfl⟩ := hR.h1.form; have HG4 := Lib.hid (Grew.step HG3.out hb); have HR := Lib.hid hR; clear hb hR; unfold rsV at *))
            go_meet
            exact ⟨_, rfl, rfl, ⟨_, _, _, BlkAt.alloc_new _ _ _, RsAt.grew HR.out (alloc_below _ _)⟩, HG4.out.al _⟩
          case rest =>
            obtain ⟨g2, rfl, rfl, hRt, hGb⟩ := hcut
            obtain ⟨b1, q1, b2, q2, b3, q3, hk, hrq⟩ := HAT.out
            obtain ⟨b, q, D, hk2, hrs⟩ := hRt
            have HRQ := Lib.hid (hrq.grew hGb)
            have HK := Lib.hid (hk.grew hGb)
            have HK2 := Lib.hid hk2
            have HRS := Lib.hid hrs
            have HGB := Lib.hid (Grew.trans HGA.out hGb)
            clear HAT hk hrq hGb hk2 hrs HAZ HHZ n0 n1 n2 n3 n4
            unfold askdV at HK
            unfold rsV at HK2
            simp only at HK HRQ
            go_upto_region 5 with (fail)
            have y0 := HK.out.cell (i := 0) rfl
            have y1 := HK.out.cell (i := 1) rfl
            have y2 := HK.out.cell (i := 2) rfl
            have y3 := HK.out.cell (i := 3) rfl
            have y4 := HK.out.cell (i := 4) rfl
            have y5 := HK.out.cell (i := 5) rfl
            have y6 := HK.out.cell (i := 6) rfl
            have y7 := HK.out.cell (i := 7) rfl
            have y8 := HK.out.cell (i := 8) rfl
            have y9 := HK.out.cell (i := 9) rfl
            have m0 := (HM.out.grew HGB.out).cell (i := 0) rfl
            have m1 := (HM.out.grew HGB.out).cell (i := 1) rfl
            have m2 := (HM.out.grew HGB.out).cell (i := 2) rfl
            have m3 := (HM.out.grew HGB.out).cell (i := 3) rfl
            have m4 := (HM.out.grew HGB.out).cell (i := 4) rfl
            have m5 := (HM.out.grew HGB.out).cell (i := 5) rfl
            have m6 := (HM.out.grew HGB.out).cell (i := 6) rfl
            go_upto_region 7 with (first
              | (go_at_call 22; (with_reducible refine (HQ1.out _ _ _ _ _ _ _ HGB.out HRQ.out).mono ?_); rintro e w5 ⟨rfl, hb⟩; have HG5 := Lib.hid (Grew.step HGB.out hb); have HRS5 := Lib.hid (RsAt.grew HRS.out hb); have v0 := (HK2.out.grew hb).cell (i := 0) rfl; have v1 := (HK2.out.grew hb).cell (i := 1) rfl; have v2 := (HK2.out.grew hb).cell (i := 2) rfl; have v3 := (HK2.out.grew hb).cell (i := 3) rfl; have v4 := (HK2.out.grew hb).cell (i := 4) rfl; have n0 := (HN.out.grew HG5.out).cell (i := 0) rfl; have n1 := (HN.out.grew HG5.out).cell (i := 1) rfl; have n2 := (HN.out.grew HG5.out).cell (i := 2) rfl; have n3 := (HN.out.grew HG5.out).cell (i := 3) rfl; have n4 := (HN.out.grew HG5.out).cell (i := 4) rfl; clear hb)
              | (go_at_call 23; (with_reducible refine (HQ2.out _ _ _ _ HG5.out HRS5.out).mono ?_); rintro e w6 ⟨rfl, hb⟩; have HG6 := Lib.hid (Grew.step HG5.out hb); clear hb))
            clear HQ1 HQ2 HK HK2 HRQ HRS HRS5 y0 y1 y2 y3 y4 y5 y6 y7 y8 y9 m0 m1 m2 m3 m4 m5 m6 v0 n0 v1 n1 v2 n2 v3 n3 v4 n4
            have HPD := Lib.hid (fun X => parse_any dt (by omega) X)
            go_cut [11, 12] (fun s11 s12 wx => ∃ g3, s11 = .pointer (some ⟨g3, 0, none⟩) ∧ s12 = .int .i64 ((parseL dt).2 : Int) ∧ AskdAt g3 (parseL dt).1 wx ∧ Grew W wx)
            case first =>
              as_aux_lemma =>
              generalize parseL dt = pr at *
              obtain ⟨pa, pn⟩ := pr
              simp only at HPD
              go_wp2_with (go_at_call 11; (with_reducible refine (HPD.out _).mono ?_); rintro e w7 ⟨u1, u2, u3, rfl, hR, hb⟩; obtain ⟨b1, q1, rfl⟩ := hR.h1.form; obtain ⟨b2, q2, rfl⟩ := hR.h2.form; obtain ⟨b3, q3, rfl⟩ := hR.h3.form; have HG7 := Lib.hid (Grew.step HG6.out hb); have HR := Lib.hid hR; clear hb hR; unfold askdV at *)
              go_meet
              exact ⟨_, rfl, rfl, ⟨_, _, _, _, _, _, BlkAt.alloc_new _ _ _, RqAt.grew HR.out (alloc_below _ _)⟩, HG7.out.al _⟩
            case rest =>
              obtain ⟨g3, rfl, rfl, hAt, hGd⟩ := hcut
              have HGD := Lib.hid hGd
              have HAT := Lib.hid hAt
              clear hGd hAt HPD
              have hpg := parse_good dt (by omega)
              have hpf := parse_fwd dt
              have hpz := parse_zero dt
              go_upto_if 89 with (fail)
              go_cut [12, 13, 88, 89] (fun _ _ _ _ wx => Grew W wx)
              case first =>
                rcases Nat.eq_zero_or_pos (parseL dt).2 with hn | hn
                · have hpf := hpf hn
                  obtain ⟨b1, q1, b2, q2, b3, q3, hk, hrq⟩ := HAT.out
                  rw [hn]
                  generalize (parseL dt).1 = pa at *
                  obtain ⟨g1, g2', g4, g5⟩ := hpg
                  cases hr : pa.reads with
                  | true =>
                    rw [hr] at hpf
                    simp only [if_true] at hpf
                    have hq := hpz hr
                    have l1 := numI_len pa.client g1
                    have l2 := numI_len pa.seq g2'
                    have l0 := numI_len 0 i64_0
                    have lz : (rqC.enc pa.req).length ≤ 300000 := by rw [hq]; exact (rq_ok (x := zeroReq) (by rfl) ⟨i64_0, by simp [zeroReq], by simp [zeroReq], by simp [zeroReq], i64_0, i64_0, i64_0⟩).2
                    have HAS := Lib.hid (fun X (hX : Grew wc X) => ask_any pa.client pa.seq g1 g2' pa.req g4 _ _ _ (by unfold askL; simp only [List.length_append]; omega) X (hrq.grew hX))
                    have HRD := Lib.hid (fun X => read_any pa.client pa.seq g1 g2' pa.rg g5 (by rw [hpf]; omega) X)
                    rw [hpf] at HRD
                    unfold askdV at hk
                    rw [hr] at hk
                    unfold rqV at HAS
                    unfold rgV at HRD
                    have y0 := hk.cell (i := 0) rfl
                    have y1 := hk.cell (i := 1) rfl
                    have y2 := hk.cell (i := 2) rfl
                    have y3 := hk.cell (i := 3) rfl
                    have y4 := hk.cell (i := 4) rfl
                    have y5 := hk.cell (i := 5) rfl
                    have y6 := hk.cell (i := 6) rfl
                    have y7 := hk.cell (i := 7) rfl
                    have y8 := hk.cell (i := 8) rfl
                    have y9 := hk.cell (i := 9) rfl
                    have HK := Lib.hid hk
                    clear hpf hpz hq l1 l2 l0 lz hk hrq g1 g2' g4 g5 hr hn HAT
                    generalize askL pa.client pa.seq pa.req = PP at *
                    go_wp2_with (first
                      | (go_at_call 15; (with_reducible refine (HAS.out _ (Grew.refl _)).mono ?_); rintro e w8 ⟨rfl, hb⟩; have HG8 := Lib.hid (Grew.step HGD.out hb); have z0 := (HK.out.grew hb).cell (i := 0) rfl; have z1 := (HK.out.grew hb).cell (i := 1) rfl; have z2 := (HK.out.grew hb).cell (i := 2) rfl; have z10 := (HK.out.grew hb).cell (i := 10) rfl; have z11 := (HK.out.grew hb).cell (i := 11) rfl; have z12 := (HK.out.grew hb).cell (i := 12) rfl; have z13 := (HK.out.grew hb).cell (i := 13) rfl; have z14 := (HK.out.grew hb).cell (i := 14) rfl; have z15 := (HK.out.grew hb).cell (i := 15) rfl; have z16 := (HK.out.grew hb).cell (i := 16) rfl; clear hb)
                      | (go_at_call 17; (with_reducible refine (HRD.out _).mono ?_); rintro e wf ⟨rfl, hb⟩; have HGF := Lib.hid (Grew.step HG8.out hb); clear hb))
                    go_meet
                    exact HGF.out
                  | false =>
                    rw [hr] at hpf
                    simp only [Bool.false_eq_true, if_false] at hpf
                    have HAS := Lib.hid (fun X (hX : Grew wc X) => ask_any pa.client pa.seq g1 g2' pa.req g4 _ _ _ (by rw [hpf]; omega) X (hrq.grew hX))
                    rw [hpf] at HAS
                    unfold askdV at hk
                    rw [hr] at hk
                    unfold rqV at HAS
                    have y0 := hk.cell (i := 0) rfl
                    have y1 := hk.cell (i := 1) rfl
                    have y2 := hk.cell (i := 2) rfl
                    have y3 := hk.cell (i := 3) rfl
                    have y4 := hk.cell (i := 4) rfl
                    have y5 := hk.cell (i := 5) rfl
                    have y6 := hk.cell (i := 6) rfl
                    have y7 := hk.cell (i := 7) rfl
                    have y8 := hk.cell (i := 8) rfl
                    have y9 := hk.cell (i := 9) rfl
                    have HK := Lib.hid hk
                    clear hpf hpz hk hrq g1 g2' g4 g5 hr hn HAT
                    go_wp2_with (go_at_call 15; (with_reducible refine (HAS.out _ (Grew.refl _)).mono ?_); rintro e wf ⟨rfl, hb⟩; have HGF := Lib.hid (Grew.step HGD.out hb); have z2 := (HK.out.grew hb).cell (i := 2) rfl; clear hb)
                    go_meet
                    exact HGF.out
                · have hz := e_cast12 (parseL dt).2 (by omega)
                  generalize (((parseL dt).2 : Nat) : Int) = nn at *
                  clear hpg hpf hpz HAT hn
                  go_wp2_with (fail)
                  go_meet
                  exact HGD.out
              case rest =>
                have HGF := Lib.hid hcut
                clear hcut hpg hpf hpz HAT
                have HL2 := Lib.hid (fun X (_ : Grew W X) => hear_any dt (by omega) X)
                rcases Nat.eq_zero_or_pos (hearL dt).2 with hm | hm
                · as_aux_lemma =>
                  have hfw := hear_fwd dt hm
                  have hgd := hear_good dt (by omega)
                  rw [hm] at HL2
                  have HAN := Lib.hid (fun v D X hX => answers_any (hearL dt).1 hgd v D (by rw [hfw]; omega) X hX)
                  rw [hfw] at HAN
                  clear hm hfw hgd
                  generalize (hearL dt).1 = y at *
                  go_wp2_with (first
                    | (go_at_call 24; (with_reducible refine (HL2.out _ HGF.out).mono ?_); rintro e wa ⟨v1, D, rfl, hR, hb⟩; obtain ⟨d1, d2, rfl⟩ := hR.h1.form; have HR := Lib.hid (RsAt.grew hR (alloc_below wa (.cells (rsV y (.slice d1 D.length d2)).toArray 48))); have HGa := Lib.hid ((Grew.step HGF.out hb).al (.cells (rsV y (.slice d1 D.length d2)).toArray 48)); clear hR hb; unfold rsV at *)
                    | (go_at_call 20; (with_reducible refine (HAN.out _ _ _ HR.out).mono ?_); rintro e wb ⟨rfl, hb⟩; have HGb := Lib.hid (Grew.step HGa.out hb); clear hb)
                    | (go_at_call 10; (with_reducible refine (HA.out _).mono ?_); rintro e w9 ⟨rfl, hb⟩; have HG9 := Lib.hid (Grew.step HGb.out hb); clear hb))
                  go_ret
                  exact ⟨rfl, HB.out.trans (Below.mono HG9.out HB.out.size)⟩
                · as_aux_lemma =>
                  have hz := e_cast12 (hearL dt).2 (by omega)
                  unfold HearSaid at HL2
                  generalize (hearL dt).1 = y at *
                  generalize (((hearL dt).2 : Nat) : Int) = mm at *
                  have hz2 : (mm != 0) = true := by unfold bne; rw [hz]; rfl
                  clear hm
                  go_wp2_with (first
                    | (go_at_call 24; (with_reducible refine (HL2.out _ HGF.out).mono ?_); rintro e wa ⟨v1, D, rfl, hR, hb⟩; obtain ⟨d1, d2, rfl⟩ := hR.h1.form; have HGa := Lib.hid ((Grew.step HGF.out hb).al (.cells (rsV y (.slice d1 D.length d2)).toArray 48)); clear hR hb; unfold rsV at *)
                    | (go_at_call 10; (with_reducible refine (HA.out _).mono ?_); rintro e w9 ⟨rfl, hb⟩; have HG9 := Lib.hid (Grew.step HGa.out hb); clear hb))
                  go_ret
                  exact ⟨rfl, HB.out.trans (Below.mono HG9.out HB.out.size)⟩
      · as_aux_lemma =>
        have t2 : decide ((20000 : Int) < ((bs dt).size : Int)) = true := decide_eq_true (by rw [bs_size]; omega)
        clear okx okz
        go_wp2_with (first
          | (go_at_call 14; (with_reducible refine (HF1.out _ (Grew.refl _)).mono ?_); rintro e w1 ⟨rfl, hb⟩; have HG1 := Lib.hid (show Grew W w1 from hb); clear HF1; have n0 := (HN.out.grew hb).cell (i := 0) rfl; have n1 := (HN.out.grew hb).cell (i := 1) rfl; have n2 := (HN.out.grew hb).cell (i := 2) rfl; have n3 := (HN.out.grew hb).cell (i := 3) rfl; have n4 := (HN.out.grew hb).cell (i := 4) rfl; clear hb)
          | (go_at_call 19; (with_reducible refine (HF2.out _ HG1.out).mono ?_); rintro e w2 ⟨rfl, hb⟩; have HG2 := Lib.hid (Grew.step HG1.out hb); clear HF2 hb)
          | (go_at_call 10; (with_reducible refine (HA.out _).mono ?_); rintro e w9 ⟨rfl, hb⟩; have HG9 := Lib.hid hb; clear hb))
        go_ret
        exact ⟨rfl, HB.out.trans (Below.mono (Grew.step HG2.out HG9.out) HB.out.size)⟩
/-- THE LAW TalkBack. -/
theorem talkBack_walk (W : World) (v0 v1 : Value) (a2 : ByteArray) (h0 : IsReq W v0) (h1 : IsRes W v1) (h2 : a2.size ≤ maxLen) :
    Calls Try.prog 9 #[v0, v1, .string a2] W fun e w' => e = .returned (.bool true) ∧ Below W.heap.size W w' := by
  obtain ⟨x, s1, s2, s3, rfl, hx, ix, zx⟩ := h0
  obtain ⟨z, s, L, rfl, hz, iz, zz⟩ := h1
  have := back_law x s1 s2 s3 z s L a2.data.toList W hx hz ix iz zx zz (sz_of h2)
  rw [bs_of] at this
  exact this
end Go.Proofs.Ytlcblkmmkphpmaa
