/- The law TalkReads walked. Conditions: as each theorem says. -/
import Derived.Test.YtlcblkmmkphpmaaTalL
namespace Go.Proofs.Ytlcblkmmkphpmaa
open Go.RowKit

theorem zero_sz : zeroReq.sz := ⟨⟨by decide, by decide, by decide⟩, by simp [zeroReq], by simp [zeroReq], by simp [zeroReq]⟩
theorem bs_nil : bs ([] : List UInt8) = ⟨#[]⟩ := rfl
theorem empty_yes (l : Byt) (h : l = []) : (bs l).toList.isEmpty = true := by rw [bs_toList, h]; rfl
theorem empty_no (l : Byt) (h : l ≠ []) : (bs l).toList.isEmpty = false := by rw [bs_toList]; simpa using h
set_option maxRecDepth 100000 in
set_option maxHeartbeats 2000000 in
theorem reads_law (a b : Int) (ha : i64 a) (hb : i64 b) (g : Rg) (rest : Byt) (w : World) (gi : g.int) (gs : g.sz) (hr : rest.length ≤ M63) :
    Calls Try.prog 5 #[.agg #[.int .i64 a, .int .i64 b], .agg (rgV g).toArray, .string (bs rest)] w fun e w' => e = .returned (.bool true) ∧ Below w.heap.size w w' := by
  obtain ⟨W, hW, hB, k0, k2⟩ := boxes2 w 40 28 [.int .i64 a, .int .i64 b] (rgV g)
  have HB := Lib.hid hB
  have HW := Lib.hid hW
  have HA := Lib.hid (fun X => awake_any X)
  have HK0 := Lib.hid k0
  have HK2 := Lib.hid k2
  have z0 : (bs g.key).size ≤ 9223372036854775807 := by rw [bs_size]; exact gs.1
  have z1 : (bs g.end_).size ≤ 9223372036854775807 := by rw [bs_size]; exact gs.2
  have z2 : (bs rest).size ≤ 9223372036854775807 := by rw [bs_size]; exact hr
  have m0 := BlkAt.cell k0 (i := 0) rfl
  have m1 := BlkAt.cell k0 (i := 1) rfl
  have n0 := BlkAt.cell k2 (i := 0) rfl
  have n1 := BlkAt.cell k2 (i := 1) rfl
  have n2 := BlkAt.cell k2 (i := 2) rfl
  have n3 := BlkAt.cell k2 (i := 3) rfl
  have n4 := BlkAt.cell k2 (i := 4) rfl
  have n5 := BlkAt.cell k2 (i := 5) rfl
  have n6 := BlkAt.cell k2 (i := 6) rfl
  clear hW hB k0 k2 gs hr
  unfold rgV at *
  go_enter Try.func5, Try.ntmps5
  go_upto_region 1 with (fail)
  rw [← HW.out]
  clear HW
  by_cases g0 : g.key.length ≤ 1000
  · have t0 := big_no g.key g0
    by_cases g1 : g.end_.length ≤ 1000
    · have t1 := big_no g.end_ g1
      by_cases g2 : rest.length ≤ 100
      · have t2 : decide ((100 : Int) < ((bs rest).size : Int)) = false := decide_eq_false (by rw [bs_size]; omega)
        obtain ⟨hrg, hrl⟩ := rg_ok (x := g) (by unfold fewRg; simp [g0, g1]) gi
        have la := numI_len a ha
        have lb := numI_len b hb
        have l1 := numI_len 1 (by unfold i64; omega)
        have hd2 : (readL a b g).length ≤ 10000 := by unfold readL; simp only [List.length_append]; omega
        have H3 := Lib.hid (fun X => read_any a b ha hb g hrg (by omega) X)
        unfold rgV at H3
        have hps := parse_read a b ha hb g hrg rest
        have H4 : Hid (∀ X, Calls Try.prog 11 #[.string (bs (readL a b g) ++ bs rest)] X (ParseSaid X (parseL (readL a b g ++ rest)).1 (parseL (readL a b g ++ rest)).2)) := Lib.hid (fun X => by
          rw [bs_append]
          exact parse_any _ (by rw [List.length_append]; omega) X)
        have ss : ¬ 9223372036854775807 < (bs (readL a b g)).size + (bs rest).size := by simp only [bs_size]; omega
        clear hrg hrl la lb l1 hd2 ha hb gi
        by_cases hn : rest = []
        · as_aux_lemma =>
          rw [if_pos hn] at hps
          rw [hps] at H4
          have e0 := empty_yes rest hn
          clear hps g0 g1 g2 hn
          generalize readL a b g = P at *
          have HE := fun V => run_eql_rg g g V
          rw [decide_eq_true rfl] at HE
          unfold rgV at HE
          go_wp2_with (first
            | (go_at_call 17; (with_reducible refine (H3.out _).mono ?_); rintro e w1 ⟨rfl, hb1⟩; have HB1 := Lib.hid hb1; clear hb1)
            | (go_at_call 11; (with_reducible refine (H4.out _).mono ?_); rintro e w2 ⟨u1, u2, u3, rfl, hR, hb2⟩; obtain ⟨b1, c1, rfl⟩ := hR.h1.form; obtain ⟨b2, c2, rfl⟩ := hR.h2.form; obtain ⟨b3, c3, rfl⟩ := hR.h3.form; have HB2 := Lib.hid (Grew.step HB1.out hb2); clear hR hb2; have h1 := (HK0.out.grew HB2.out).lt; have h2 := (HK2.out.grew HB2.out).lt; have m0 := (HK0.out.grew HB2.out).cell (i := 0) rfl; have m1 := (HK0.out.grew HB2.out).cell (i := 1) rfl; have n0 := (HK2.out.grew HB2.out).cell (i := 0) rfl; have n1 := (HK2.out.grew HB2.out).cell (i := 1) rfl; have n2 := (HK2.out.grew HB2.out).cell (i := 2) rfl; have n3 := (HK2.out.grew HB2.out).cell (i := 3) rfl; have n4 := (HK2.out.grew HB2.out).cell (i := 4) rfl; have n5 := (HK2.out.grew HB2.out).cell (i := 5) rfl; have n6 := (HK2.out.grew HB2.out).cell (i := 6) rfl; unfold askdV zeroReq at *; simp only at *)
            | (go_at_call 10; (with_reducible refine (HA.out _).mono ?_); rintro e w3 ⟨rfl, hb3⟩; have HB3 := Lib.hid hb3; clear hb3))
          go_ret
          exact ⟨rfl, HB.out.trans (Below.mono (Grew.step (HB2.out.al _) HB3.out) HB.out.size)⟩
        · as_aux_lemma =>
          rw [if_neg hn] at hps
          rw [hps] at H4
          have e0 := empty_no rest hn
          clear hps g0 g1 g2 hn
          generalize readL a b g = P at *
          have HS := Lib.hid (fun X b1 c1 b2 c2 b3 c3 (h : RqAt X zeroReq (.slice b1 0 c1) (.slice b2 0 c2) (.slice b3 0 c3)) => same_any zeroAskd (.slice b1 0 c1) (.slice b2 0 c2) (.slice b3 0 c3) (.slice none 0 0) (.slice none 0 0) (.slice none 0 0) X h ⟨rows_nil _, rows_nil _, rows_nil _⟩ zero_sz)
          unfold askdV zeroAskd zeroReq zeroRg at HS
          simp only [bs_nil] at HS
          go_wp2_with (first
            | (go_at_call 17; (with_reducible refine (H3.out _).mono ?_); rintro e w1 ⟨rfl, hb1⟩; have HB1 := Lib.hid hb1; clear hb1)
            | (go_at_call 11; (with_reducible refine (H4.out _).mono ?_); rintro e w2 ⟨u1, u2, u3, rfl, hR, hb2⟩; obtain ⟨b1, c1, rfl⟩ := hR.h1.form; obtain ⟨b2, c2, rfl⟩ := hR.h2.form; obtain ⟨b3, c3, rfl⟩ := hR.h3.form; have HB2 := Lib.hid (Grew.step HB1.out hb2); have HR := Lib.hid (fun o => HS.out _ b1 c1 b2 c2 b3 c3 (RqAt.grew hR (alloc_below w2 o))); clear hR hb2 HS; unfold askdV zeroAskd zeroReq zeroRg at *; simp only [bs_nil] at *)
            | (go_at_call 13; (with_reducible refine (HR.out _).mono ?_); rintro e w3 ⟨rfl, hb3⟩; have HB3 := Lib.hid (Grew.step (HB2.out.al _) hb3); clear hb3)
            | (go_at_call 10; (with_reducible refine (HA.out _).mono ?_); rintro e w4 ⟨rfl, hb4⟩; have HB4 := Lib.hid (Grew.step HB3.out hb4); clear hb4))
          go_ret
          exact ⟨rfl, HB.out.trans (Below.mono HB4.out HB.out.size)⟩
      · as_aux_lemma =>
        have t2 : decide ((100 : Int) < ((bs rest).size : Int)) = true := decide_eq_true (by rw [bs_size]; omega)
        go_wp2_with (go_at_call 10; (with_reducible refine (HA.out _).mono ?_); rintro e w2 ⟨rfl, hb2⟩; have HB2 := Lib.hid hb2; clear hb2)
        go_ret
        exact ⟨rfl, HB.out.trans (HB2.out.mono HB.out.size)⟩
    · as_aux_lemma =>
      have t1 := big_yes g.end_ g1
      go_wp2_with (go_at_call 10; (with_reducible refine (HA.out _).mono ?_); rintro e w2 ⟨rfl, hb2⟩; have HB2 := Lib.hid hb2; clear hb2)
      go_ret
      exact ⟨rfl, HB.out.trans (HB2.out.mono HB.out.size)⟩
  · as_aux_lemma =>
    have t0 := big_yes g.key g0
    go_wp2_with (go_at_call 10; (with_reducible refine (HA.out _).mono ?_); rintro e w2 ⟨rfl, hb2⟩; have HB2 := Lib.hid hb2; clear hb2)
    go_ret
    exact ⟨rfl, HB.out.trans (HB2.out.mono HB.out.size)⟩
/-- THE LAW TalkReads. -/
theorem talkReads_walk (W : World) (v0 v1 : Value) (a2 : ByteArray) (h0 : IsWho v0) (h1 : IsRg v1) (h2 : a2.size ≤ maxLen) :
    Calls Try.prog 5 #[v0, v1, .string a2] W fun e w' => e = .returned (.bool true) ∧ Below W.heap.size W w' := by
  obtain ⟨a, b, rfl, ha, hb⟩ := h0
  obtain ⟨g, rfl, gi, gs⟩ := h1
  have := reads_law a b ha hb g a2.data.toList W gi gs (sz_of h2)
  rw [bs_of] at this
  exact this
end Go.Proofs.Ytlcblkmmkphpmaa
