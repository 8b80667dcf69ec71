/- The law TalkParses walked. Printed by gen/genTalVd.py. Conditions: as each theorem says. -/
import Derived.Test.YtlcblkmmkphpmaaTalVc
import Derived.Test.YtlcblkmmkphpmaaTalT
namespace Go.Proofs.Ytlcblkmmkphpmaa
open Go.RowKit

theorem cp_sz {x : Cp} (h : cpC.ok x) : x.sz := ⟨h.1, h.2.2.2.2⟩
theorem op_sz {x : Opr} (h : opC.ok x) : x.sz := ⟨⟨h.2.1.1, h.2.1.2.1⟩, h.2.2.1⟩
theorem kv_sz {x : Kvr} (h : kvC.ok x) : x.sz := ⟨h.1, h.2.1⟩
theorem rq_sz {x : Req} (h : rqC.ok x) : x.sz :=
  ⟨⟨Nat.le_trans (show x.cmp.length ≤ 10000 from h.2.1.1) (by decide), Nat.le_trans (show x.thn.length ≤ 10000 from h.2.2.1.1) (by decide), Nat.le_trans (show x.els.length ≤ 10000 from h.2.2.2.1.1) (by decide)⟩, fun y hy => cp_sz (h.2.1.2 y hy), fun y hy => op_sz (h.2.2.1.2 y hy), fun y hy => op_sz (h.2.2.2.1.2 y hy)⟩
theorem an_sz {x : Ans} (h : anC.ok x) : x.sz := ⟨Nat.le_trans (show x.kvs.length ≤ 10000 from h.2.1.1) (by decide), fun y hy => kv_sz (h.2.1.2 y hy)⟩
theorem rs_sz {x : Res} (h : rsC.ok x) : x.sz := ⟨Nat.le_trans (show x.ans.length ≤ 10000 from h.2.2.2.1.1) (by decide), fun y hy => an_sz (h.2.2.2.1.2 y hy)⟩
def RaskAt (g : Nat) (x : Askd) (w : World) : Prop := ∃ b1 c1 b2 c2 b3 c3, BlkAt g 34 (askdV x (.slice b1 x.req.cmp.length c1) (.slice b2 x.req.thn.length c2) (.slice b3 x.req.els.length c3)) w ∧ RqAt w x.req (.slice b1 x.req.cmp.length c1) (.slice b2 x.req.thn.length c2) (.slice b3 x.req.els.length c3)
set_option maxRecDepth 100000 in
set_option maxHeartbeats 8000000 in
theorem parses_law (dt : Byt) (w : World) (hd : dt.length ≤ M63) :
    Calls Try.prog 3 #[.string (bs dt)] w fun e w' => e = .returned (.bool true) ∧ Below w.heap.size w w' := by
  have HA := Lib.hid (fun X => awake_any X)
  have zd : (bs dt).size ≤ 9223372036854775807 := by rw [bs_size]; exact hd
  by_cases h20 : dt.length ≤ 20000
  · have t2 : decide ((20000 : Int) < ((bs dt).size : Int)) = false := decide_eq_false (by rw [bs_size]; omega)
    have HP := Lib.hid (fun X => parse_any dt hd X)
    have HR := Lib.hid (fun X => rparse_any dt hd X)
    have hsz := rq_sz (parse_good dt hd).2.2.1
    generalize parseL dt = pr at *
    obtain ⟨x, n⟩ := pr
    simp only at HP HR hsz
    have HSM := Lib.hid (fun X b1 c1 b2 c2 b3 c3 d1 e1 d2 e2 d3 e3 h1 h2 => same_any x (.slice b1 x.req.cmp.length c1) (.slice b2 x.req.thn.length c2) (.slice b3 x.req.els.length c3) (.slice d1 x.req.cmp.length e1) (.slice d2 x.req.thn.length e2) (.slice d3 x.req.els.length e3) X h1 h2 hsz)
    unfold askdV at HSM
    clear hsz
    go_enter Try.func3, Try.ntmps3
    go_upto_region 3 with (fail)
    go_cut [3, 4] (fun s3 s4 wx => ∃ g, s3 = .pointer (some ⟨g, 0, none⟩) ∧ s4 = .int .i64 (n : Int) ∧ AskdAt g x wx ∧ Grew w wx)
    case first =>
      as_aux_lemma =>
      clear HR HSM
      go_wp2_with (go_at_call 11; (with_reducible refine (HP.out _).mono ?_); rintro e w1 ⟨u1, u2, u3, rfl, hR, hb⟩; obtain ⟨b1, q1, rfl⟩ := hR.h1.form; obtain ⟨b2, q2, rfl⟩ := hR.h2.form; obtain ⟨b3, q3, rfl⟩ := hR.h3.form; have HG := Lib.hid (show Grew w w1 from hb); have HRq := Lib.hid hR; clear hb hR; unfold askdV at *)
      go_meet
      exact ⟨_, rfl, rfl, ⟨_, _, _, _, _, _, BlkAt.alloc_new _ _ _, RqAt.grew HRq.out (alloc_below _ _)⟩, HG.out.al _⟩
    case rest =>
      obtain ⟨g, rfl, rfl, hAt, hG⟩ := hcut
      have HAT := Lib.hid hAt
      have HGA := Lib.hid hG
      clear hAt hG HP
      go_upto_region 4 with (fail)
      go_cut [5, 6] (fun s5 s6 wx => ∃ g2, s5 = .pointer (some ⟨g2, 0, none⟩) ∧ s6 = .int .i64 (n : Int) ∧ RaskAt g2 x wx ∧ Grew wc wx)
      case first =>
        as_aux_lemma =>
        clear HAT HSM
        go_wp2_with (go_at_call 12; (with_reducible refine (HR.out _).mono ?_); rintro e w1 ⟨u1, u2, u3, rfl, hR, hb⟩; obtain ⟨b1, q1, rfl⟩ := hR.h1.form; obtain ⟨b2, q2, rfl⟩ := hR.h2.form; obtain ⟨b3, q3, rfl⟩ := hR.h3.form; have HG := Lib.hid (show Grew wc w1 from hb); have HRq := Lib.hid hR; clear hb hR; unfold askdV at *)
        go_meet
        exact ⟨_, rfl, rfl, ⟨_, _, _, _, _, _, BlkAt.alloc_new _ _ _, RqAt.grew HRq.out (alloc_below _ _)⟩, HG.out.al _⟩
      case rest =>
        obtain ⟨g2, rfl, rfl, hRt, hGb⟩ := hcut
        obtain ⟨b1, q1, b2, q2, b3, q3, hk, hrq⟩ := HAT.out
        obtain ⟨d1, e1, d2, e2, d3, e3, hk2, hrq2⟩ := hRt
        have hk := hk.grew hGb
        have HS := Lib.hid (HSM.out wc b1 q1 b2 q2 b3 q3 d1 e1 d2 e2 d3 e3 (hrq.grew hGb) hrq2)
        have HGB := Lib.hid (Grew.trans HGA.out hGb)
        unfold askdV at hk hk2
        clear HAT hrq hrq2 hGb HR HSM HGA
        have y0 := hk.cell (i := 0) rfl
        have v0 := hk2.cell (i := 0) rfl
        have y1 := hk.cell (i := 1) rfl
        have v1 := hk2.cell (i := 1) rfl
        have y2 := hk.cell (i := 2) rfl
        have v2 := hk2.cell (i := 2) rfl
        have y3 := hk.cell (i := 3) rfl
        have v3 := hk2.cell (i := 3) rfl
        have y4 := hk.cell (i := 4) rfl
        have v4 := hk2.cell (i := 4) rfl
        have y5 := hk.cell (i := 5) rfl
        have v5 := hk2.cell (i := 5) rfl
        have y6 := hk.cell (i := 6) rfl
        have v6 := hk2.cell (i := 6) rfl
        have y7 := hk.cell (i := 7) rfl
        have v7 := hk2.cell (i := 7) rfl
        have y8 := hk.cell (i := 8) rfl
        have v8 := hk2.cell (i := 8) rfl
        have y9 := hk.cell (i := 9) rfl
        have v9 := hk2.cell (i := 9) rfl
        have y10 := hk.cell (i := 10) rfl
        have v10 := hk2.cell (i := 10) rfl
        have y11 := hk.cell (i := 11) rfl
        have v11 := hk2.cell (i := 11) rfl
        have y12 := hk.cell (i := 12) rfl
        have v12 := hk2.cell (i := 12) rfl
        have y13 := hk.cell (i := 13) rfl
        have v13 := hk2.cell (i := 13) rfl
        have y14 := hk.cell (i := 14) rfl
        have v14 := hk2.cell (i := 14) rfl
        have y15 := hk.cell (i := 15) rfl
        have v15 := hk2.cell (i := 15) rfl
        have y16 := hk.cell (i := 16) rfl
        have v16 := hk2.cell (i := 16) rfl
        have en : ((n : Int) == (n : Int)) = true := by simp
        clear hk hk2
        go_wp2_with (first
          | (go_at_call 13; (with_reducible refine HS.out.mono ?_); rintro e w5 ⟨rfl, hb⟩; have HG5 := Lib.hid (Grew.step HGB.out hb); clear hb)
          | (go_at_call 10; (with_reducible refine (HA.out _).mono ?_); rintro e w9 ⟨rfl, hb⟩; have HG9 := Lib.hid (Grew.step HG5.out hb); clear hb))
        go_ret
        exact ⟨rfl, HG9.out⟩
  · as_aux_lemma =>
    have t2 : decide ((20000 : Int) < ((bs dt).size : Int)) = true := decide_eq_true (by rw [bs_size]; omega)
    go_enter Try.func3, Try.ntmps3
    go_wp2_with (go_at_call 10; (with_reducible refine (HA.out _).mono ?_); rintro e w9 ⟨rfl, hb⟩; have HG9 := Lib.hid hb; clear hb)
    go_ret
    exact ⟨rfl, HG9.out⟩
/-- THE LAW TalkParses. -/
theorem talkParses_walk (W : World) (a0 : ByteArray) (h0 : a0.size ≤ maxLen) :
    Calls Try.prog 3 #[.string a0] W fun e w' => e = .returned (.bool true) ∧ Below W.heap.size W w' := by
  have := parses_law a0.data.toList W (sz_of h0)
  rw [bs_of] at this
  exact this
end Go.Proofs.Ytlcblkmmkphpmaa
