/- The law TalkHears walked. Conditions: as each theorem says. -/
import Derived.Test.YtlcblkmmkphpmaaTalVe
import Derived.Test.YtlcblkmmkphpmaaTalVd
namespace Go.Proofs.Ytlcblkmmkphpmaa
open Go.RowKit

set_option maxRecDepth 100000 in
set_option maxHeartbeats 8000000 in
theorem hears_law (dt : Byt) (w : World) (hd : dt.length ≤ M63) :
    Calls Try.prog 8 #[.string (bs dt)] w fun e w' => e = .returned (.bool true) ∧ Below w.heap.size w w' := by
  have HA := Lib.hid (fun X => awake_any X)
  have zd : (bs dt).size ≤ 9223372036854775807 := by rw [bs_size]; exact hd
  by_cases h20 : dt.length ≤ 20000
  · have t2 : decide ((20000 : Int) < ((bs dt).size : Int)) = false := decide_eq_false (by rw [bs_size]; omega)
    have HP := Lib.hid (fun X => hear_any dt hd X)
    have hpe : hearL dt = ((hearL dt).1, (hearL dt).2) := by generalize hearL dt = p; cases p; rfl
    have HR := Lib.hid (fun X => rhear_at dt hd (hearL dt).1 (hearL dt).2 hpe X)
    clear hpe
    have hsz := rs_sz (hear_good dt hd)
    generalize hearL dt = pr at *
    obtain ⟨x, n⟩ := pr
    simp only at HP HR hsz
    have HSM := Lib.hid (fun X b q D c p E h1 h2 => sameRes_any x x (.slice b (List.length D) q) (.slice c (List.length E) p) D E X h1 h2 hsz hsz)
    simp only [decide_true] at HSM
    unfold rsV at HSM
    clear hsz
    go_enter Try.func8, Try.ntmps8
    go_upto_region 3 with (fail)
    go_cut [3, 4] (fun s3 s4 wx => ∃ g, s3 = .pointer (some ⟨g, 0, none⟩) ∧ s4 = .int .i64 (n : Int) ∧ ResAt g x wx ∧ Grew w wx)
    case first =>
      as_aux_lemma =>
      clear HR HSM
      go_wp2_with (go_at_call 24; (with_reducible refine (HP.out _).mono ?_); rintro e w1 ⟨u1, D, rfl, hR, hb⟩; obtain ⟨b1, q1, rfl⟩ := hR.h1.form; have HG := Lib.hid (show Grew w w1 from hb); have HRq := Lib.hid hR; clear hb hR; unfold rsV at *)
      go_meet
      exact ⟨_, rfl, rfl, ⟨_, _, _, BlkAt.alloc_new _ _ _, RsAt.grew HRq.out (alloc_below _ _)⟩, HG.out.al _⟩
    case rest =>
      obtain ⟨g, rfl, rfl, hAt, hG⟩ := hcut
      have HAT := Lib.hid hAt
      have HGA := Lib.hid hG
      clear hAt hG HP
      go_upto_region 4 with (fail)
      go_cut [5, 6] (fun s5 s6 wx => ∃ g2, s5 = .pointer (some ⟨g2, 0, none⟩) ∧ s6 = .int .i64 (n : Int) ∧ ResAt g2 x wx ∧ Grew wc wx)
      case first =>
        as_aux_lemma =>
        clear HAT HSM
        go_wp2_with (go_at_call 25; (with_reducible refine (HR.out _).mono ?_); rintro e w1 ⟨u1, D, rfl, hR, hb⟩; obtain ⟨b1, q1, rfl⟩ := hR.h1.form; have HG := Lib.hid (show Grew wc w1 from hb); have HRq := Lib.hid hR; clear hb hR; unfold rsV at *)
        go_meet
        exact ⟨_, rfl, rfl, ⟨_, _, _, BlkAt.alloc_new _ _ _, RsAt.grew HRq.out (alloc_below _ _)⟩, HG.out.al _⟩
      case rest =>
        obtain ⟨g2, rfl, rfl, hRt, hGb⟩ := hcut
        obtain ⟨b1, q1, D, hk, hrs⟩ := HAT.out
        obtain ⟨d1, e1, E, hk2, hrs2⟩ := hRt
        have hk := hk.grew hGb
        have HS := Lib.hid (HSM.out wc b1 q1 D d1 e1 E (hrs.grew hGb) hrs2)
        have HGB := Lib.hid (Grew.trans HGA.out hGb)
        unfold rsV at hk hk2
        clear HAT hrs hrs2 hGb HR HSM HGA
        have y0 := hk.cell (i := 0) rfl
        have y1 := hk.cell (i := 1) rfl
        have y2 := hk.cell (i := 2) rfl
        have y3 := hk.cell (i := 3) rfl
        have y4 := hk.cell (i := 4) rfl
        have v0 := hk2.cell (i := 0) rfl
        have v1 := hk2.cell (i := 1) rfl
        have v2 := hk2.cell (i := 2) rfl
        have v3 := hk2.cell (i := 3) rfl
        have v4 := hk2.cell (i := 4) rfl
        have en : ((n : Int) == (n : Int)) = true := by simp
        clear hk hk2
        go_wp2_with (first
          | (go_at_call 23; (with_reducible refine HS.out.mono ?_); rintro e w5 ⟨rfl, hb⟩; have HG5 := Lib.hid (Grew.step HGB.out hb); clear hb)
          | (go_at_call 10; (with_reducible refine (HA.out _).mono ?_); rintro e w9 ⟨rfl, hb⟩; have HG9 := Lib.hid (Grew.step HG5.out hb); clear hb))
        go_ret
        exact ⟨rfl, HG9.out⟩
  · as_aux_lemma =>
    have t2 : decide ((20000 : Int) < ((bs dt).size : Int)) = true := decide_eq_true (by rw [bs_size]; omega)
    go_enter Try.func8, Try.ntmps8
    go_wp2_with (go_at_call 10; (with_reducible refine (HA.out _).mono ?_); rintro e w9 ⟨rfl, hb⟩; have HG9 := Lib.hid hb; clear hb)
    go_ret
    exact ⟨rfl, HG9.out⟩
/-- THE LAW TalkHears. -/
theorem talkHears_walk (W : World) (a0 : ByteArray) (h0 : a0.size ≤ maxLen) :
    Calls Try.prog 8 #[.string a0] W fun e w' => e = .returned (.bool true) ∧ Below W.heap.size W w' := by
  have := hears_law a0.data.toList W (sz_of h0)
  rw [bs_of] at this
  exact this
end Go.Proofs.Ytlcblkmmkphpmaa
