/- The walk of the reference's taker's request. Printed by gen/genTalVb.py. Conditions: as each theorem says. -/
import Derived.Test.YtlcblkmmkphpmaaTalV
namespace Go.Proofs.Ytlcblkmmkphpmaa
open Go.RowKit

theorem mx_row_end {α : Type} {T' : TypeId} {n : Nat} {enc : α → List Value} {u : Value} {L : List α} {w0 w w1 : World} {k j : Nat} (hG : Grow T' n enc (k + 1) u L w) (g : w.grownBy w1 (some j)) (hj : j < k + 1) (hk : w0.heap.size ≤ k + 1) : Grow T' n enc w0.heap.size u L w1 := (hG.kept1 g hj).mono hk
theorem app_len {α : Type} {D : List α} {i : Nat} (h : D.length = i) (x : α) : (D ++ [x]).length = i + 1 := by rw [List.length_append, h]; rfl
set_option maxRecDepth 100000 in
set_option maxHeartbeats 8000000 in
theorem rrequest_at (t q : Nat) (htq : t ≠ q) (r0 : Rd) (hl : Bd r0) {x : Req} {rz : Rd} (hx : rqC.rd r0 = (x, rz)) (w : World) (h : Tq t q r0 w) :
    Calls Try.prog 35 #[.pointer (some ⟨t, 0, none⟩)] w fun e w' => ∃ u1 u2 u3, e = .returned (.agg (rqV x u1 u2 u3).toArray) ∧ (Grow CpT 5 cpV w.heap.size u1 x.cmp w' ∧ Grow OpT 10 opV w.heap.size u2 x.thn w' ∧ Grow OpT 10 opV w.heap.size u3 x.els w') ∧ Tq t q rz w' ∧ Gr2 q q w w' := by
  obtain ⟨xk, xc, xt, xe, xr, xl, xn⟩ := x
  unfold rqV
  simp only
  obtain ⟨a0, r1, e0⟩ : ∃ a s, numR r0 = (a, s) := ⟨_, _, rfl⟩
  have HE0 := Lib.hid e0
  have hl1 := bd_num e0 hl
  have H0 := Lib.hid (fun X hX => rnum_at t q htq r0 hl e0 X hX)
  have HMN := Lib.hid (fun X hX => rmany_any t q htq r1 hl1 X hX)
  have hL : cpC.list.rd r1 = itemsR cpC.rd (manyR r1).1 (manyR r1).2 := rfl
  have hl2 : Bd (manyR r1).2 := Nat.le_trans (many_len r1) hl1
  have hm3 := (many_is r1).2.2
  have HS := Lib.hid h
  have h0 : Tq t q r0 (w.alloc (.cells #[.int .i64 0, .slice none 0 0, .slice none 0 0, .slice none 0 0, .int .i64 0, .int .i64 0, .int .i64 0] 26)) := h.grew (alloc_below w _)
  have hM0 : Mx t q (w.heap.size + 1) 26 r0 [.int .i64 0, .slice none 0 0, .slice none 0 0, .slice none 0 0, .int .i64 0, .int .i64 0, .int .i64 0] (w.alloc (.cells #[.int .i64 0, .slice none 0 0, .slice none 0 0, .slice none 0 0, .int .i64 0, .int .i64 0, .int .i64 0] 26)) ((w.alloc (.cells #[.int .i64 0, .slice none 0 0, .slice none 0 0, .slice none 0 0, .int .i64 0, .int .i64 0, .int .i64 0] 26)).alloc (.cells #[.int .i64 0, .slice none 0 0, .slice none 0 0, .slice none 0 0, .int .i64 0, .int .i64 0, .int .i64 0] 26)) := mx_start h0 [.int .i64 0, .slice none 0 0, .slice none 0 0, .slice none 0 0, .int .i64 0, .int .i64 0, .int .i64 0] (size1 _ _)
  have HJ := Lib.hid (BlkAt.alloc_new w [.int .i64 0, .slice none 0 0, .slice none 0 0, .slice none 0 0, .int .i64 0, .int .i64 0, .int .i64 0] 26)
  have HQJ := Lib.hid (show q ≠ w.heap.size ∧ t ≠ w.heap.size by have := h.lt; omega)
  have ct := hM0.hs.c0
  have HM0 := Lib.hid hM0
  clear h h0 hM0 hl hl1 e0
  generalize manyR r1 = mr at *
  obtain ⟨N, r2⟩ := mr
  simp only at HMN hm3 hl2 hL
  have HL := Lib.hid hL
  clear hL
  go_enter Try.func35, Try.ntmps35
  go_wp2_with (first
    | (go_at_call 32; (with_reducible refine (H0.out _ HM0.out.hs).mono ?_); rintro e w0 ⟨rfl, hs, hg⟩; have hX := HM0.out.call hs hg; have d0 := BlkAt.cell hX.hk (i := 0) rfl; have f0 := BlkAt.frozen hX.hk 0; have hM : Mx t q (w.heap.size + 1) 26 r1 [.int .i64 a0, .slice none 0 0, .slice none 0 0, .slice none 0 0, .int .i64 0, .int .i64 0, .int .i64 0] (w.alloc (.cells #[.int .i64 0, .slice none 0 0, .slice none 0 0, .slice none 0 0, .int .i64 0, .int .i64 0, .int .i64 0] 26)) (w0.setCell ⟨(w.heap.size + 1), 0, none⟩ (.int .i64 a0)) := (hX.set 0 (.int .i64 a0)); have ct := hM.hs.c0; have HM1 := Lib.hid hM; clear hM hX hs hg)
    | (go_at_call 57; (with_reducible refine (HMN.out _ HM1.out.hs).mono ?_); rintro e w1 ⟨rfl, hs, hg⟩; have HX0 := Lib.hid (HM1.out.call hs hg); clear hs hg HM1))
  go_loopw [5] (fun v5 W => ∃ (i : Nat) (D : List Cp) (ri : Rd) (u : Value), v5 = .int .i64 (i : Int) ∧ Mx t q (w.heap.size + 1) 26 ri [.int .i64 a0, u, .slice none 0 0, .slice none 0 0, .int .i64 0, .int .i64 0, .int .i64 0] (w.alloc (.cells #[.int .i64 0, .slice none 0 0, .slice none 0 0, .slice none 0 0, .int .i64 0, .int .i64 0, .int .i64 0] 26)) W ∧ Grow CpT 5 cpV ((w.heap.size + 1) + 1) u D W ∧ Bd ri ∧ Way cpC (N : Int) N r2 i D ri) (fun v5 _ => N - (intOf v5).toNat)
  case atStart => exact ⟨0, [], r2, _, rfl, HX0.out, Grow.nil _, hl2, way_start _ _ _ _ (fun _ => rfl)⟩
  case round =>
    obtain ⟨i, D, ri, u, rfl, hX, hG, hbd, hway⟩ := hrel
    obtain ⟨a0_, c0_, hv6⟩ := hG.slice
    rw [hway.len] at hv6
    subst hv6
    have hT := hX.hs
    have HX := Lib.hid hX
    have HG := Lib.hid hG
    have HWY := Lib.hid hway
    have HDl := Lib.hid hway.len
    have hle := hway.le
    clear hG hX hway HX0 HMN H0
    have HWL := Lib.hid (rwell_any t q ri wr hT)
    have ct := hT.c0
    by_cases hlt : i < N
    · have q0 : decide (i < N) = true := decide_eq_true hlt
      by_cases he : ri.e = 0
      · rw [decide_eq_true he] at HWL
        obtain ⟨x0, s1, g0⟩ : ∃ a s, textR ri = (a, s) := ⟨_, _, rfl⟩
        obtain ⟨x1, s2, g1⟩ : ∃ a s, numR s1 = (a, s) := ⟨_, _, rfl⟩
        obtain ⟨x2, s3, g2⟩ : ∃ a s, numR s2 = (a, s) := ⟨_, _, rfl⟩
        obtain ⟨x3, s4, g3⟩ : ∃ a s, numR s3 = (a, s) := ⟨_, _, rfl⟩
        obtain ⟨x4, s5, g4⟩ : ∃ a s, textR s4 = (a, s) := ⟨_, _, rfl⟩
        have l1 := bd_text g0 hbd
        have l2 := bd_num g1 l1
        have l3 := bd_num g2 l2
        have l4 := bd_num g3 l3
        have l5 := bd_text g4 l4
        have G0 := Lib.hid (fun X hX => rtext_at t q htq ri hbd g0 X hX)
        have G1 := Lib.hid (fun X hX => rnum_at t q htq s1 l1 g1 X hX)
        have G2 := Lib.hid (fun X hX => rnum_at t q htq s2 l2 g2 X hX)
        have G3 := Lib.hid (fun X hX => rnum_at t q htq s3 l3 g3 X hX)
        have G4 := Lib.hid (fun X hX => rtext_at t q htq s4 l4 g4 X hX)
        have hx' : cpC.rd ri = (⟨x0, x1, x2, x3, x4⟩, s5) := iso_rd (pair_rd g0 (pair_rd g1 (pair_rd g2 (pair_rd g3 g4)))) _ _ _ _
        have hWY := Lib.hid (HWY.out.next he hlt hx')
        have HBD := Lib.hid l5
        have hC0 : Mx t q wr.heap.size 75 ri [.string ⟨#[]⟩, .int .i64 0, .int .i64 0, .int .i64 0, .string ⟨#[]⟩] wr (wr.alloc (.cells #[.string ⟨#[]⟩, .int .i64 0, .int .i64 0, .int .i64 0, .string ⟨#[]⟩] 75)) := mx_start hT [.string ⟨#[]⟩, .int .i64 0, .int .i64 0, .int .i64 0, .string ⟨#[]⟩] rfl
        have ct := hC0.hs.c0
        have HC0 := Lib.hid hC0
        clear hC0 hx' HWY g0 g1 g2 g3 g4 l1 l2 l3 l4 l5 hT he hbd HL hx
        go_upto_region 13 with (first
          | (go_at_call 58; (with_reducible refine HWL.out.mono ?_); rintro e ww ⟨rfl, hw⟩; have hw := hw.symm; subst hw; clear HWL)
          | (go_at_call 59; (with_reducible refine (G0.out _ HC0.out.hs).mono ?_); rintro e v0 ⟨rfl, hs, hg⟩; have hX := HC0.out.call hs hg; have d0 := BlkAt.cell hX.hk (i := 0) rfl; have f0 := BlkAt.frozen hX.hk 0; have hM : Mx t q wr.heap.size 75 s1 [.string (bs x0), .int .i64 0, .int .i64 0, .int .i64 0, .string ⟨#[]⟩] wr (v0.setCell ⟨wr.heap.size, 0, none⟩ (.string (bs x0))) := (hX.set 0 (.string (bs x0))); have ct := hM.hs.c0; have HC1 := Lib.hid hM; clear hM hX hs hg)
          | (go_at_call 32; (with_reducible refine (G1.out _ HC1.out.hs).mono ?_); rintro e v1 ⟨rfl, hs, hg⟩; have hX := HC1.out.call hs hg; have d1 := BlkAt.cell hX.hk (i := 1) rfl; have f1 := BlkAt.frozen hX.hk 1; have hM : Mx t q wr.heap.size 75 s2 [.string (bs x0), .int .i64 x1, .int .i64 0, .int .i64 0, .string ⟨#[]⟩] wr (v1.setCell ⟨wr.heap.size, 1, none⟩ (.int .i64 x1)) := (hX.set 1 (.int .i64 x1)); have ct := hM.hs.c0; have HC2 := Lib.hid hM; clear hM hX hs hg)
          | (go_at_call 32; (with_reducible refine (G2.out _ HC2.out.hs).mono ?_); rintro e v2 ⟨rfl, hs, hg⟩; have hX := HC2.out.call hs hg; have d2 := BlkAt.cell hX.hk (i := 2) rfl; have f2 := BlkAt.frozen hX.hk 2; have hM : Mx t q wr.heap.size 75 s3 [.string (bs x0), .int .i64 x1, .int .i64 x2, .int .i64 0, .string ⟨#[]⟩] wr (v2.setCell ⟨wr.heap.size, 2, none⟩ (.int .i64 x2)) := (hX.set 2 (.int .i64 x2)); have ct := hM.hs.c0; have HC3 := Lib.hid hM; clear hM hX hs hg)
          | (go_at_call 32; (with_reducible refine (G3.out _ HC3.out.hs).mono ?_); rintro e v3 ⟨rfl, hs, hg⟩; have hX := HC3.out.call hs hg; have d3 := BlkAt.cell hX.hk (i := 3) rfl; have f3 := BlkAt.frozen hX.hk 3; have hM : Mx t q wr.heap.size 75 s4 [.string (bs x0), .int .i64 x1, .int .i64 x2, .int .i64 x3, .string ⟨#[]⟩] wr (v3.setCell ⟨wr.heap.size, 3, none⟩ (.int .i64 x3)) := (hX.set 3 (.int .i64 x3)); have ct := hM.hs.c0; have HC4 := Lib.hid hM; clear hM hX hs hg)
          | (go_at_call 59; (with_reducible refine (G4.out _ HC4.out.hs).mono ?_); rintro e v4 ⟨rfl, hs, hg⟩; have hX := HC4.out.call hs hg; have d4 := BlkAt.cell hX.hk (i := 4) rfl; have f4 := BlkAt.frozen hX.hk 4; have hM : Mx t q wr.heap.size 75 s5 [.string (bs x0), .int .i64 x1, .int .i64 x2, .int .i64 x3, .string (bs x4)] wr (v4.setCell ⟨wr.heap.size, 4, none⟩ (.string (bs x4))) := (hX.set 4 (.string (bs x4))); have ct := hM.hs.c0; have y0 := BlkAt.cell hM.hk (i := 0) rfl; have y1 := BlkAt.cell hM.hk (i := 1) rfl; have y2 := BlkAt.cell hM.hk (i := 2) rfl; have y3 := BlkAt.cell hM.hk (i := 3) rfl; have y4 := BlkAt.cell hM.hk (i := 4) rfl; have HC5 := Lib.hid hM; clear hM hX hs hg))
        generalize (World.setCell v4 ⟨wr.heap.size, 4, none⟩ (.string (bs x4))) = wq at *
        have hXq := HX.out.call HC5.out.hs HC5.out.hg
        have hGr := HX.out.row_call HG.out HC5.out.hg
        have c1 := BlkAt.cell hXq.hk (i := 1) rfl
        have hbs := hXq.hk.lt
        have HXq := Lib.hid hXq
        clear hXq
        go_wp2_with (at_builtin; refine wpList_append_grow rfl _ _ _ rfl Try.underlying23 _ _ infoCp rfl (by decide) rfl hGr (by omega) ⟨x0, x1, x2, x3, x4⟩ _ rfl rfl (cp_one ⟨x0, x1, x2, x3, x4⟩) rfl (by rw [HDl.out]; unfold maxLen; omega) (by rw [HDl.out]; omega) ?_; intro v2 w6 hG6 hg6; obtain ⟨a6, c6, hv2⟩ := hG6.slice; rw [app_len HDl.out] at hv2; subst hv2; have hX6 := HXq.out.row_app _ hGr hg6; have c16 := BlkAt.cell hX6.hk (i := 1) rfl; have f16 := BlkAt.frozen hX6.hk 1; have h16 := hX6.hk.lt; have HX7 := Lib.hid (hX6.set 1 (.slice a6 (i + 1) c6)); have HG7 := Lib.hid (Mk.row_set hG6 1 (.slice a6 (i + 1) c6)); clear hG6 hg6 hGr hX6)
        go_roundw
        case rel => exact ⟨i + 1, _, s5, _, by go_num, HX7.out, HG7.out, HBD.out, hWY.out⟩
        case measure => simp [intOf]; omega
      · rw [decide_eq_false he] at HWL
        have hD : cpC.list.rd r1 = (D, ri) := HL.out.trans (HWY.out.done (.inl he))
        clear HWY he hT
        obtain ⟨o2, t3, g0⟩ : ∃ a s, opC.list.rd ri = (a, s) := ⟨_, _, rfl⟩
        obtain ⟨o3, t4, g1⟩ : ∃ a s, opC.list.rd t3 = (a, s) := ⟨_, _, rfl⟩
        obtain ⟨n4, t5, g2⟩ : ∃ a s, numR t4 = (a, s) := ⟨_, _, rfl⟩
        obtain ⟨n5, t6, g3⟩ : ∃ a s, numR t5 = (a, s) := ⟨_, _, rfl⟩
        obtain ⟨n6, t7, g4⟩ : ∃ a s, numR t6 = (a, s) := ⟨_, _, rfl⟩
        have l1 := bd_ops g0 hbd
        have T0 := Lib.hid (fun X hX => rops_at t q htq ri hbd g0 X hX)
        have l2 := bd_ops g1 l1
        have T1 := Lib.hid (fun X hX => rops_at t q htq t3 l1 g1 X hX)
        have l3 := bd_num g2 l2
        have T2 := Lib.hid (fun X hX => rnum_at t q htq t4 l2 g2 X hX)
        have l4 := bd_num g3 l3
        have T3 := Lib.hid (fun X hX => rnum_at t q htq t5 l3 g3 X hX)
        have T4 := Lib.hid (fun X hX => rnum_at t q htq t6 l4 g4 X hX)
        have hh : rqC.rd r0 = (⟨a0, D, o2, o3, n4, n5, n6⟩, t7) := iso_rd (pair_rd HE0.out (pair_rd hD (pair_rd g0 (pair_rd g1 (pair_rd g2 (pair_rd g3 g4)))))) _ _ _ _
        rw [hh] at hx
        injection hx with h1 h2
        injection h1 with i1 i2 i3 i4 i5 i6 i7
        subst h2 i1 i2 i3 i4 i5 i6 i7
        have HY0 := HX
        have HR1 := HG
        have ct := HY0.out.hs.c0
        clear hh hD g0 g1 g2 g3 g4 l1 l2 l3 l4 HX HG HE0 hbd
        go_wp2_with (first
          | (go_at_call 58; (with_reducible refine HWL.out.mono ?_); rintro e ww ⟨rfl, hw⟩; have hw := hw.symm; subst hw; clear HWL)
          | (go_at_call 68; (with_reducible refine (T0.out _ HY0.out.hs).mono ?_); rintro e z0 ⟨uo2, rfl, hG, hs, hg⟩; obtain ⟨bo2, co2, rfl⟩ := hG.slice; have hX := HY0.out.call hs hg; have d2 := BlkAt.cell hX.hk (i := 2) rfl; have f2 := BlkAt.frozen hX.hk 2; have nHR1 := Lib.hid (Mk.row_set (HY0.out.row_call HR1.out hg) 2 (.slice bo2 o2.length co2)); have nHRo2 := Lib.hid (Mk.row_set (HY0.out.row_start hG) 2 (.slice bo2 o2.length co2)); clear HR1; have HR1 := nHR1; clear nHR1; have HRo2 := nHRo2; clear nHRo2; have hM : Mx t q (w.heap.size + 1) 26 t3 [.int .i64 a0, .slice a0_ i c0_, .slice bo2 o2.length co2, .slice none 0 0, .int .i64 0, .int .i64 0, .int .i64 0] (w.alloc (.cells #[.int .i64 0, .slice none 0 0, .slice none 0 0, .slice none 0 0, .int .i64 0, .int .i64 0, .int .i64 0] 26)) (z0.setCell ⟨(w.heap.size + 1), 2, none⟩ (.slice bo2 o2.length co2)) := (hX.set 2 (.slice bo2 o2.length co2)); have ct := hM.hs.c0; have HY1 := Lib.hid hM; clear hM hX hs hg hG)
          | (go_at_call 68; (with_reducible refine (T1.out _ HY1.out.hs).mono ?_); rintro e z1 ⟨uo3, rfl, hG, hs, hg⟩; obtain ⟨bo3, co3, rfl⟩ := hG.slice; have hX := HY1.out.call hs hg; have d3 := BlkAt.cell hX.hk (i := 3) rfl; have f3 := BlkAt.frozen hX.hk 3; have nHR1 := Lib.hid (Mk.row_set (HY1.out.row_call HR1.out hg) 3 (.slice bo3 o3.length co3)); have nHRo2 := Lib.hid (Mk.row_set (HY1.out.row_call HRo2.out hg) 3 (.slice bo3 o3.length co3)); have nHRo3 := Lib.hid (Mk.row_set (HY1.out.row_start hG) 3 (.slice bo3 o3.length co3)); clear HR1; have HR1 := nHR1; clear nHR1; clear HRo2; have HRo2 := nHRo2; clear nHRo2; have HRo3 := nHRo3; clear nHRo3; have hM : Mx t q (w.heap.size + 1) 26 t4 [.int .i64 a0, .slice a0_ i c0_, .slice bo2 o2.length co2, .slice bo3 o3.length co3, .int .i64 0, .int .i64 0, .int .i64 0] (w.alloc (.cells #[.int .i64 0, .slice none 0 0, .slice none 0 0, .slice none 0 0, .int .i64 0, .int .i64 0, .int .i64 0] 26)) (z1.setCell ⟨(w.heap.size + 1), 3, none⟩ (.slice bo3 o3.length co3)) := (hX.set 3 (.slice bo3 o3.length co3)); have ct := hM.hs.c0; have HY2 := Lib.hid hM; clear hM hX hs hg hG)
          | (go_at_call 32; (with_reducible refine (T2.out _ HY2.out.hs).mono ?_); rintro e z2 ⟨rfl, hs, hg⟩; have hX := HY2.out.call hs hg; have d4 := BlkAt.cell hX.hk (i := 4) rfl; have f4 := BlkAt.frozen hX.hk 4; have nHR1 := Lib.hid (Mk.row_set (HY2.out.row_call HR1.out hg) 4 (.int .i64 n4)); have nHRo2 := Lib.hid (Mk.row_set (HY2.out.row_call HRo2.out hg) 4 (.int .i64 n4)); have nHRo3 := Lib.hid (Mk.row_set (HY2.out.row_call HRo3.out hg) 4 (.int .i64 n4)); clear HR1; have HR1 := nHR1; clear nHR1; clear HRo2; have HRo2 := nHRo2; clear nHRo2; clear HRo3; have HRo3 := nHRo3; clear nHRo3; have hM : Mx t q (w.heap.size + 1) 26 t5 [.int .i64 a0, .slice a0_ i c0_, .slice bo2 o2.length co2, .slice bo3 o3.length co3, .int .i64 n4, .int .i64 0, .int .i64 0] (w.alloc (.cells #[.int .i64 0, .slice none 0 0, .slice none 0 0, .slice none 0 0, .int .i64 0, .int .i64 0, .int .i64 0] 26)) (z2.setCell ⟨(w.heap.size + 1), 4, none⟩ (.int .i64 n4)) := (hX.set 4 (.int .i64 n4)); have ct := hM.hs.c0; have HY3 := Lib.hid hM; clear hM hX hs hg)
          | (go_at_call 32; (with_reducible refine (T3.out _ HY3.out.hs).mono ?_); rintro e z3 ⟨rfl, hs, hg⟩; have hX := HY3.out.call hs hg; have d5 := BlkAt.cell hX.hk (i := 5) rfl; have f5 := BlkAt.frozen hX.hk 5; have nHR1 := Lib.hid (Mk.row_set (HY3.out.row_call HR1.out hg) 5 (.int .i64 n5)); have nHRo2 := Lib.hid (Mk.row_set (HY3.out.row_call HRo2.out hg) 5 (.int .i64 n5)); have nHRo3 := Lib.hid (Mk.row_set (HY3.out.row_call HRo3.out hg) 5 (.int .i64 n5)); clear HR1; have HR1 := nHR1; clear nHR1; clear HRo2; have HRo2 := nHRo2; clear nHRo2; clear HRo3; have HRo3 := nHRo3; clear nHRo3; have hM : Mx t q (w.heap.size + 1) 26 t6 [.int .i64 a0, .slice a0_ i c0_, .slice bo2 o2.length co2, .slice bo3 o3.length co3, .int .i64 n4, .int .i64 n5, .int .i64 0] (w.alloc (.cells #[.int .i64 0, .slice none 0 0, .slice none 0 0, .slice none 0 0, .int .i64 0, .int .i64 0, .int .i64 0] 26)) (z3.setCell ⟨(w.heap.size + 1), 5, none⟩ (.int .i64 n5)) := (hX.set 5 (.int .i64 n5)); have ct := hM.hs.c0; have HY4 := Lib.hid hM; clear hM hX hs hg)
          | (go_at_call 32; (with_reducible refine (T4.out _ HY4.out.hs).mono ?_); rintro e z4 ⟨rfl, hs, hg⟩; have hX := HY4.out.call hs hg; have d6 := BlkAt.cell hX.hk (i := 6) rfl; have f6 := BlkAt.frozen hX.hk 6; have nHR1 := Lib.hid (Mk.row_set (HY4.out.row_call HR1.out hg) 6 (.int .i64 n6)); have nHRo2 := Lib.hid (Mk.row_set (HY4.out.row_call HRo2.out hg) 6 (.int .i64 n6)); have nHRo3 := Lib.hid (Mk.row_set (HY4.out.row_call HRo3.out hg) 6 (.int .i64 n6)); clear HR1; have HR1 := nHR1; clear nHR1; clear HRo2; have HRo2 := nHRo2; clear nHRo2; clear HRo3; have HRo3 := nHRo3; clear nHRo3; have hM : Mx t q (w.heap.size + 1) 26 t7 [.int .i64 a0, .slice a0_ i c0_, .slice bo2 o2.length co2, .slice bo3 o3.length co3, .int .i64 n4, .int .i64 n5, .int .i64 n6] (w.alloc (.cells #[.int .i64 0, .slice none 0 0, .slice none 0 0, .slice none 0 0, .int .i64 0, .int .i64 0, .int .i64 0] 26)) (z4.setCell ⟨(w.heap.size + 1), 6, none⟩ (.int .i64 n6)) := (hX.set 6 (.int .i64 n6)); have ct := hM.hs.c0; have y0 := BlkAt.cell hM.hk (i := 0) rfl; have y1 := BlkAt.cell hM.hk (i := 1) rfl; have y2 := BlkAt.cell hM.hk (i := 2) rfl; have y3 := BlkAt.cell hM.hk (i := 3) rfl; have y4 := BlkAt.cell hM.hk (i := 4) rfl; have y5 := BlkAt.cell hM.hk (i := 5) rfl; have y6 := BlkAt.cell hM.hk (i := 6) rfl; have HY5 := Lib.hid hM; clear hM hX hs hg)
          | (refine wpList_store_blk (by rfl) 26 _ _ (by rfl) w.heap.size 26 [.int .i64 0, .slice none 0 0, .slice none 0 0, .slice none 0 0, .int .i64 0, .int .i64 0, .int .i64 0] [.int .i64 a0, .slice a0_ i c0_, .slice bo2 o2.length co2, .slice bo3 o3.length co3, .int .i64 n4, .int .i64 n5, .int .i64 n6] (by rfl) (by rfl) (HY5.out.old HJ.out (Ne.symm HQJ.out.1)) rfl (by kernel_rfl) (by intro u hu; simp only [List.mem_cons, List.not_mem_nil, or_false] at hu; rcases hu with rfl | rfl | rfl | rfl | rfl | rfl | rfl <;> rfl) ?_; intro wz hk hg; have hld := run_load_blk (P := Try.prog) hk _ Try.underlying26 rfl (by kernel_rfl)))
        exact bodyPost_ret (v := .agg #[.int .i64 a0, .slice a0_ i c0_, .slice bo2 o2.length co2, .slice bo3 o3.length co3, .int .i64 n4, .int .i64 n5, .int .i64 n6]) (results_cell Try.results35 _ _ _ ⟨w.heap.size, 0, none⟩ _ (by rfl) hld) rfl ⟨_, _, _, rfl, ⟨mx_row_end HR1.out hg (by omega) (by omega), mx_row_end HRo2.out hg (by omega) (by omega), mx_row_end HRo3.out hg (by omega) (by omega)⟩, HY5.out.end_ HS.out (Gr2.of_below (alloc_below w _)) (Nat.le_refl _) hg HQJ.out.1 HQJ.out.2⟩
    · have q0 : decide (i < N) = false := decide_eq_false hlt
      have hD : cpC.list.rd r1 = (D, ri) := HL.out.trans (HWY.out.done (.inr hlt))
      clear HWY HWL hT
      obtain ⟨o2, t3, g0⟩ : ∃ a s, opC.list.rd ri = (a, s) := ⟨_, _, rfl⟩
      obtain ⟨o3, t4, g1⟩ : ∃ a s, opC.list.rd t3 = (a, s) := ⟨_, _, rfl⟩
      obtain ⟨n4, t5, g2⟩ : ∃ a s, numR t4 = (a, s) := ⟨_, _, rfl⟩
      obtain ⟨n5, t6, g3⟩ : ∃ a s, numR t5 = (a, s) := ⟨_, _, rfl⟩
      obtain ⟨n6, t7, g4⟩ : ∃ a s, numR t6 = (a, s) := ⟨_, _, rfl⟩
      have l1 := bd_ops g0 hbd
      have T0 := Lib.hid (fun X hX => rops_at t q htq ri hbd g0 X hX)
      have l2 := bd_ops g1 l1
      have T1 := Lib.hid (fun X hX => rops_at t q htq t3 l1 g1 X hX)
      have l3 := bd_num g2 l2
      have T2 := Lib.hid (fun X hX => rnum_at t q htq t4 l2 g2 X hX)
      have l4 := bd_num g3 l3
      have T3 := Lib.hid (fun X hX => rnum_at t q htq t5 l3 g3 X hX)
      have T4 := Lib.hid (fun X hX => rnum_at t q htq t6 l4 g4 X hX)
      have hh : rqC.rd r0 = (⟨a0, D, o2, o3, n4, n5, n6⟩, t7) := iso_rd (pair_rd HE0.out (pair_rd hD (pair_rd g0 (pair_rd g1 (pair_rd g2 (pair_rd g3 g4)))))) _ _ _ _
      rw [hh] at hx
      injection hx with h1 h2
      injection h1 with i1 i2 i3 i4 i5 i6 i7
      subst h2 i1 i2 i3 i4 i5 i6 i7
      have HY0 := HX
      have HR1 := HG
      have ct := HY0.out.hs.c0
      clear hh hD g0 g1 g2 g3 g4 l1 l2 l3 l4 HX HG HE0 hbd
      go_wp2_with (first
        | (go_at_call 68; (with_reducible refine (T0.out _ HY0.out.hs).mono ?_); rintro e z0 ⟨uo2, rfl, hG, hs, hg⟩; obtain ⟨bo2, co2, rfl⟩ := hG.slice; have hX := HY0.out.call hs hg; have d2 := BlkAt.cell hX.hk (i := 2) rfl; have f2 := BlkAt.frozen hX.hk 2; have nHR1 := Lib.hid (Mk.row_set (HY0.out.row_call HR1.out hg) 2 (.slice bo2 o2.length co2)); have nHRo2 := Lib.hid (Mk.row_set (HY0.out.row_start hG) 2 (.slice bo2 o2.length co2)); clear HR1; have HR1 := nHR1; clear nHR1; have HRo2 := nHRo2; clear nHRo2; have hM : Mx t q (w.heap.size + 1) 26 t3 [.int .i64 a0, .slice a0_ i c0_, .slice bo2 o2.length co2, .slice none 0 0, .int .i64 0, .int .i64 0, .int .i64 0] (w.alloc (.cells #[.int .i64 0, .slice none 0 0, .slice none 0 0, .slice none 0 0, .int .i64 0, .int .i64 0, .int .i64 0] 26)) (z0.setCell ⟨(w.heap.size + 1), 2, none⟩ (.slice bo2 o2.length co2)) := (hX.set 2 (.slice bo2 o2.length co2)); have ct := hM.hs.c0; have HY1 := Lib.hid hM; clear hM hX hs hg hG)
        | (go_at_call 68; (with_reducible refine (T1.out _ HY1.out.hs).mono ?_); rintro e z1 ⟨uo3, rfl, hG, hs, hg⟩; obtain ⟨bo3, co3, rfl⟩ := hG.slice; have hX := HY1.out.call hs hg; have d3 := BlkAt.cell hX.hk (i := 3) rfl; have f3 := BlkAt.frozen hX.hk 3; have nHR1 := Lib.hid (Mk.row_set (HY1.out.row_call HR1.out hg) 3 (.slice bo3 o3.length co3)); have nHRo2 := Lib.hid (Mk.row_set (HY1.out.row_call HRo2.out hg) 3 (.slice bo3 o3.length co3)); have nHRo3 := Lib.hid (Mk.row_set (HY1.out.row_start hG) 3 (.slice bo3 o3.length co3)); clear HR1; have HR1 := nHR1; clear nHR1; clear HRo2; have HRo2 := nHRo2; clear nHRo2; have HRo3 := nHRo3; clear nHRo3; have hM : Mx t q (w.heap.size + 1) 26 t4 [.int .i64 a0, .slice a0_ i c0_, .slice bo2 o2.length co2, .slice bo3 o3.length co3, .int .i64 0, .int .i64 0, .int .i64 0] (w.alloc (.cells #[.int .i64 0, .slice none 0 0, .slice none 0 0, .slice none 0 0, .int .i64 0, .int .i64 0, .int .i64 0] 26)) (z1.setCell ⟨(w.heap.size + 1), 3, none⟩ (.slice bo3 o3.length co3)) := (hX.set 3 (.slice bo3 o3.length co3)); have ct := hM.hs.c0; have HY2 := Lib.hid hM; clear hM hX hs hg hG)
        | (go_at_call 32; (with_reducible refine (T2.out _ HY2.out.hs).mono ?_); rintro e z2 ⟨rfl, hs, hg⟩; have hX := HY2.out.call hs hg; have d4 := BlkAt.cell hX.hk (i := 4) rfl; have f4 := BlkAt.frozen hX.hk 4; have nHR1 := Lib.hid (Mk.row_set (HY2.out.row_call HR1.out hg) 4 (.int .i64 n4)); have nHRo2 := Lib.hid (Mk.row_set (HY2.out.row_call HRo2.out hg) 4 (.int .i64 n4)); have nHRo3 := Lib.hid (Mk.row_set (HY2.out.row_call HRo3.out hg) 4 (.int .i64 n4)); clear HR1; have HR1 := nHR1; clear nHR1; clear HRo2; have HRo2 := nHRo2; clear nHRo2; clear HRo3; have HRo3 := nHRo3; clear nHRo3; have hM : Mx t q (w.heap.size + 1) 26 t5 [.int .i64 a0, .slice a0_ i c0_, .slice bo2 o2.length co2, .slice bo3 o3.length co3, .int .i64 n4, .int .i64 0, .int .i64 0] (w.alloc (.cells #[.int .i64 0, .slice none 0 0, .slice none 0 0, .slice none 0 0, .int .i64 0, .int .i64 0, .int .i64 0] 26)) (z2.setCell ⟨(w.heap.size + 1), 4, none⟩ (.int .i64 n4)) := (hX.set 4 (.int .i64 n4)); have ct := hM.hs.c0; have HY3 := Lib.hid hM; clear hM hX hs hg)
        | (go_at_call 32; (with_reducible refine (T3.out _ HY3.out.hs).mono ?_); rintro e z3 ⟨rfl, hs, hg⟩; have hX := HY3.out.call hs hg; have d5 := BlkAt.cell hX.hk (i := 5) rfl; have f5 := BlkAt.frozen hX.hk 5; have nHR1 := Lib.hid (Mk.row_set (HY3.out.row_call HR1.out hg) 5 (.int .i64 n5)); have nHRo2 := Lib.hid (Mk.row_set (HY3.out.row_call HRo2.out hg) 5 (.int .i64 n5)); have nHRo3 := Lib.hid (Mk.row_set (HY3.out.row_call HRo3.out hg) 5 (.int .i64 n5)); clear HR1; have HR1 := nHR1; clear nHR1; clear HRo2; have HRo2 := nHRo2; clear nHRo2; clear HRo3; have HRo3 := nHRo3; clear nHRo3; have hM : Mx t q (w.heap.size + 1) 26 t6 [.int .i64 a0, .slice a0_ i c0_, .slice bo2 o2.length co2, .slice bo3 o3.length co3, .int .i64 n4, .int .i64 n5, .int .i64 0] (w.alloc (.cells #[.int .i64 0, .slice none 0 0, .slice none 0 0, .slice none 0 0, .int .i64 0, .int .i64 0, .int .i64 0] 26)) (z3.setCell ⟨(w.heap.size + 1), 5, none⟩ (.int .i64 n5)) := (hX.set 5 (.int .i64 n5)); have ct := hM.hs.c0; have HY4 := Lib.hid hM; clear hM hX hs hg)
        | (go_at_call 32; (with_reducible refine (T4.out _ HY4.out.hs).mono ?_); rintro e z4 ⟨rfl, hs, hg⟩; have hX := HY4.out.call hs hg; have d6 := BlkAt.cell hX.hk (i := 6) rfl; have f6 := BlkAt.frozen hX.hk 6; have nHR1 := Lib.hid (Mk.row_set (HY4.out.row_call HR1.out hg) 6 (.int .i64 n6)); have nHRo2 := Lib.hid (Mk.row_set (HY4.out.row_call HRo2.out hg) 6 (.int .i64 n6)); have nHRo3 := Lib.hid (Mk.row_set (HY4.out.row_call HRo3.out hg) 6 (.int .i64 n6)); clear HR1; have HR1 := nHR1; clear nHR1; clear HRo2; have HRo2 := nHRo2; clear nHRo2; clear HRo3; have HRo3 := nHRo3; clear nHRo3; have hM : Mx t q (w.heap.size + 1) 26 t7 [.int .i64 a0, .slice a0_ i c0_, .slice bo2 o2.length co2, .slice bo3 o3.length co3, .int .i64 n4, .int .i64 n5, .int .i64 n6] (w.alloc (.cells #[.int .i64 0, .slice none 0 0, .slice none 0 0, .slice none 0 0, .int .i64 0, .int .i64 0, .int .i64 0] 26)) (z4.setCell ⟨(w.heap.size + 1), 6, none⟩ (.int .i64 n6)) := (hX.set 6 (.int .i64 n6)); have ct := hM.hs.c0; have y0 := BlkAt.cell hM.hk (i := 0) rfl; have y1 := BlkAt.cell hM.hk (i := 1) rfl; have y2 := BlkAt.cell hM.hk (i := 2) rfl; have y3 := BlkAt.cell hM.hk (i := 3) rfl; have y4 := BlkAt.cell hM.hk (i := 4) rfl; have y5 := BlkAt.cell hM.hk (i := 5) rfl; have y6 := BlkAt.cell hM.hk (i := 6) rfl; have HY5 := Lib.hid hM; clear hM hX hs hg)
        | (refine wpList_store_blk (by rfl) 26 _ _ (by rfl) w.heap.size 26 [.int .i64 0, .slice none 0 0, .slice none 0 0, .slice none 0 0, .int .i64 0, .int .i64 0, .int .i64 0] [.int .i64 a0, .slice a0_ i c0_, .slice bo2 o2.length co2, .slice bo3 o3.length co3, .int .i64 n4, .int .i64 n5, .int .i64 n6] (by rfl) (by rfl) (HY5.out.old HJ.out (Ne.symm HQJ.out.1)) rfl (by kernel_rfl) (by intro u hu; simp only [List.mem_cons, List.not_mem_nil, or_false] at hu; rcases hu with rfl | rfl | rfl | rfl | rfl | rfl | rfl <;> rfl) ?_; intro wz hk hg; have hld := run_load_blk (P := Try.prog) hk _ Try.underlying26 rfl (by kernel_rfl)))
      exact bodyPost_ret (v := .agg #[.int .i64 a0, .slice a0_ i c0_, .slice bo2 o2.length co2, .slice bo3 o3.length co3, .int .i64 n4, .int .i64 n5, .int .i64 n6]) (results_cell Try.results35 _ _ _ ⟨w.heap.size, 0, none⟩ _ (by rfl) hld) rfl ⟨_, _, _, rfl, ⟨mx_row_end HR1.out hg (by omega) (by omega), mx_row_end HRo2.out hg (by omega) (by omega), mx_row_end HRo3.out hg (by omega) (by omega)⟩, HY5.out.end_ HS.out (Gr2.of_below (alloc_below w _)) (Nat.le_refl _) hg HQJ.out.1 HQJ.out.2⟩
end Go.Proofs.Ytlcblkmmkphpmaa
