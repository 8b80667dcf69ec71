/- The walks of the reference's SameResponse and the law's same. Printed by gen/genTalL.py. Conditions: as each theorem says. -/
import Derived.Test.YtlcblkmmkphpmaaTalK
namespace Go.Proofs.Ytlcblkmmkphpmaa
open Go.RowKit

theorem res_ext {x y : Res} (h0 : x.err = y.err) (h1 : x.rev = y.rev) (h2 : x.thn = y.thn) (h3 : x.ans = y.ans) (h4 : x.ticks = y.ticks) : x = y := by
  cases x; cases y; simp_all
theorem map_get {p : List (Ans × Value)} {i : Nat} (h : i < p.length) : (p.map (·.1))[i]'(by rw [List.length_map]; exact h) = p[i].1 := by simp
theorem Grew.al {w0 w : World} (h : Grew w0 w) (o : Obj) : Grew w0 (w.alloc o) := h.step (alloc_below w o)
set_option maxRecDepth 100000 in
set_option maxHeartbeats 2000000 in
theorem sameRes_any (x y : Res) (s u : Value) (L M : List (Ans × Value)) (w : World) (hx : RsAt w x s L) (hy : RsAt w y u M) (zx : x.sz) (zy : y.sz) :
    Calls Try.prog 23 #[.agg (rsV x s).toArray, .agg (rsV y u).toArray] w fun e w' => e = .returned (.bool (decide (x = y))) ∧ Below w.heap.size w w' := by
  obtain ⟨a1, p1, rfl⟩ := hx.h1.form
  obtain ⟨b1, q1, rfl⟩ := hy.h1.form
  obtain ⟨x0, x1, x2, x3, x4⟩ := x
  obtain ⟨y0, y1, y2, y3, y4⟩ := y
  obtain rfl : x3 = L.map (·.1) := hx.hL
  obtain rfl : y3 = M.map (·.1) := hy.hL
  obtain ⟨W, hW, hB, k1, k2⟩ := boxes2 w 48 48 (rsV ⟨x0, x1, x2, L.map (·.1), x4⟩ (.slice a1 L.length p1)) (rsV ⟨y0, y1, y2, M.map (·.1), y4⟩ (.slice b1 M.length q1))
  have hxW := hx.grew hB
  have hyW := hy.grew hB
  have HX1 := Lib.hid hxW.h1
  have HY1 := Lib.hid hyW.h1
  have HX2 := Lib.hid hxW.h2
  have HY2 := Lib.hid hyW.h2
  have HZX := Lib.hid zx
  have HZY := Lib.hid zy
  have HM := Lib.hid k1
  have HN := Lib.hid k2
  have HB := Lib.hid hB
  have HW := Lib.hid hW
  have hn : L.length ≤ 9223372036854775807 := by have h : (L.map (·.1)).length ≤ M63 := zx.1; rw [List.length_map] at h; exact h
  have hm : M.length ≤ 9223372036854775807 := by have h : (M.map (·.1)).length ≤ M63 := zy.1; rw [List.length_map] at h; exact h
  clear hx hy hxW hyW k1 k2 hB hW zx zy
  obtain ⟨dd, hD⟩ : ∃ b, b = decide ((⟨x0, x1, x2, L.map (·.1), x4⟩ : Res) = ⟨y0, y1, y2, M.map (·.1), y4⟩) := ⟨_, rfl⟩
  rw [← hD]
  have HRN := Lib.hid (fun h : (⟨x0, x1, x2, L.map (·.1), x4⟩ : Res) ≠ ⟨y0, y1, y2, M.map (·.1), y4⟩ => hD.trans (decide_eq_false h))
  have HRY := Lib.hid (fun h : (⟨x0, x1, x2, L.map (·.1), x4⟩ : Res) = ⟨y0, y1, y2, M.map (·.1), y4⟩ => hD.trans (decide_eq_true h))
  clear hD
  unfold rsV at *
  simp only at HM HN
  have m3 := HM.out.cell (i := 3) rfl
  have n3 := HN.out.cell (i := 3) rfl
  go_enter Try.func23, Try.ntmps23
  go_upto_region 1 with (fail)
  rw [← HW.out]
  clear HW
  by_cases hl : L.length = M.length
  · have HL := Lib.hid hl
    have q0 : (L.length == M.length) = true := by simp [hl]
    clear hl
    go_wp2_with (fail)
    clear q0
    go_loopw [5] (fun v5 V => ∃ i : Nat, v5 = .int .i64 (i : Int) ∧ i ≤ L.length ∧ Hid ((L.map (·.1)).take i = (M.map (·.1)).take i) ∧ Grew W V) (fun v5 _ => L.length - (intOf v5).toNat)
    case atStart => exact ⟨0, rfl, by omega, by show _ = _; simp, Grew.refl _⟩
    case round =>
      obtain ⟨i, rfl, hi, hall, hwr⟩ := hrel
      have m3 := (HM.out.grew hwr).cell (i := 3) rfl
      have n3 := (HN.out.grew hwr).cell (i := 3) rfl
      by_cases hlt : i < L.length
      · have q0 : decide (i < L.length) = true := decide_eq_true hlt
        have hltb : i < M.length := by have := HL.out; omega
        have HA' := Lib.hid (HX1.out.grew hwr)
        have HB' := Lib.hid (HY1.out.grew hwr)
        have n3' := (HN.out.grew (hwr.al (.cells (anV L[i]).toArray 99))).cell (i := 3) rfl
        obtain ⟨ba, oa, rfl, hc⟩ := HA'.out.get i hlt
        obtain ⟨bb, ob, rfl, hd⟩ := HB'.out.get i hltb
        have hkx := HX2.out _ (List.getElem_mem hlt)
        have hky := HY2.out _ (List.getElem_mem hltb)
        obtain ⟨ka, kc, hkv⟩ := hkx.form
        obtain ⟨la, lc, hlv⟩ := hky.form
        have hzx := HZX.out.2 L[i].1 (List.mem_map_of_mem (List.getElem_mem hlt))
        have hzy := HZY.out.2 M[i].1 (List.mem_map_of_mem (List.getElem_mem hltb))
        have HTK := Lib.hid (fun (h1 : (L.map (·.1)).take i = (M.map (·.1)).take i) (h2 : L[i].1 = M[i].1) => same_take (by rw [List.length_map]; exact hlt) (by rw [List.length_map]; exact hltb) h1 (by rw [map_get hlt, map_get hltb]; exact h2))
        have HNE := Lib.hid (fun (h : L[i].1 ≠ M[i].1) => HRN.out (fun e => h (by
          have e2 : L.map (·.1) = M.map (·.1) := by injection e
          rw [← map_get hlt, ← map_get hltb]
          simp only [e2])))
        have c0 : wr.cell? ⟨ba, oa + i * 4, none⟩ = some (.int .i64 L[i].1.kind) := hc 0 _ rfl
        have c1 : wr.cell? ⟨ba, oa + i * 4 + 1, none⟩ = some L[i].2 := hc 1 _ rfl
        have c2 : wr.cell? ⟨ba, oa + i * 4 + 2, none⟩ = some (.int .i64 L[i].1.count) := hc 2 _ rfl
        have c3 : wr.cell? ⟨ba, oa + i * 4 + 3, none⟩ = some (.bool L[i].1.more) := hc 3 _ rfl
        have d0 : (wr.alloc (.cells (anV L[i]).toArray 99)).cell? ⟨bb, ob + i * 4, none⟩ = some (.int .i64 M[i].1.kind) := Grew.cell (alloc_below wr _) (hd 0 _ rfl)
        have d1 : (wr.alloc (.cells (anV L[i]).toArray 99)).cell? ⟨bb, ob + i * 4 + 1, none⟩ = some M[i].2 := Grew.cell (alloc_below wr _) (hd 1 _ rfl)
        have d2 : (wr.alloc (.cells (anV L[i]).toArray 99)).cell? ⟨bb, ob + i * 4 + 2, none⟩ = some (.int .i64 M[i].1.count) := Grew.cell (alloc_below wr _) (hd 2 _ rfl)
        have d3 : (wr.alloc (.cells (anV L[i]).toArray 99)).cell? ⟨bb, ob + i * 4 + 3, none⟩ = some (.bool M[i].1.more) := Grew.cell (alloc_below wr _) (hd 3 _ rfl)
        unfold anV at n3' d0 d1 d2 d3
        rw [hkv] at c1 hkx n3' d0 d1 d2 d3
        rw [hlv] at d1 hky
        have HK := Lib.hid (fun X (hX : Grew W X) => kvsSame_any L[i].1.kvs M[i].1.kvs ka la kc lc X (hkx.grew hX) (hky.grew hX) hzx.1 hzy.1)
        have HWR := Lib.hid hwr
        clear hc hd hkx hky hkv hlv hzx hzy hwr
        generalize L[i].1 = xa at *
        generalize M[i].1 = ya at *
        obtain ⟨xk, xs, xc, xm⟩ := xa
        obtain ⟨yk, ys, yc, ym⟩ := ya
        simp only at c0 c1 c2 c3 d0 d1 d2 d3 n3' HK HTK
        by_cases k0 : xk = yk
        · subst k0
          by_cases k1 : xc = yc
          · subst k1
            by_cases k2 : xm = ym
            · subst k2
              by_cases k3 : xs = ys
              · rw [decide_eq_true k3] at HK
                as_aux_lemma =>
                have HT := Lib.hid (HTK.out hall.out (by rw [k3]))
                clear k3 hall
                go_wp2_with (go_at_call 54; (with_reducible refine (HK.out _ ((HWR.out.al _).al _)).mono ?_); rintro e w2 ⟨rfl, hb2⟩; have hg2 := ((HWR.out.al _).al _).step hb2; clear hb2)
                go_roundw
                case rel => exact ⟨i + 1, by go_num, by omega, HT, hg2⟩
                case measure => simp [intOf]; omega
              · as_aux_lemma =>
                rw [decide_eq_false k3] at HK
                have HF := Lib.hid (HNE.out (fun e => k3 (by simp only [Ans.mk.injEq] at e; simp [e])))
                clear k3 hall
                go_wp2_with (go_at_call 54; (with_reducible refine (HK.out _ ((HWR.out.al _).al _)).mono ?_); rintro e w2 ⟨rfl, hb2⟩; have hg2 := ((HWR.out.al _).al _).step hb2; clear hb2)
                go_ret
                exact ⟨by rw [HF.out]; rfl, HB.out.trans (Below.mono hg2 HB.out.size)⟩
            · as_aux_lemma =>
              have HF := Lib.hid (HNE.out (fun e => k2 (by simp only [Ans.mk.injEq] at e; simp [e])))
              clear hall HNE
              cases xm <;> cases ym <;> first | exact absurd rfl k2 | (clear k2; go_wp2_with (fail); go_ret; exact ⟨by rw [HF.out]; rfl, HB.out.trans (Below.mono ((HWR.out.al _).al _) HB.out.size)⟩)
          · as_aux_lemma =>
            have e1 : (xc != yc) = true := by simp [k1]
            have HF := Lib.hid (HNE.out (fun e => k1 (by simp only [Ans.mk.injEq] at e; simp [e])))
            clear k1 hall
            go_wp2_with (fail)
            go_ret
            exact ⟨by rw [HF.out]; rfl, HB.out.trans (Below.mono ((HWR.out.al _).al _) HB.out.size)⟩
        · as_aux_lemma =>
          have e0 : (xk != yk) = true := by simp [k0]
          have HF := Lib.hid (HNE.out (fun e => k0 (by simp only [Ans.mk.injEq] at e; simp [e])))
          clear k0 hall
          go_wp2_with (fail)
          go_ret
          exact ⟨by rw [HF.out]; rfl, HB.out.trans (Below.mono ((HWR.out.al _).al _) HB.out.size)⟩
      · have q0 : decide (i < L.length) = false := decide_eq_false hlt
        have HCE := Lib.hid (show L.map (·.1) = M.map (·.1) from of_decide_eq_true (same_end (by rw [List.length_map, List.length_map]; exact HL.out) (by rw [List.length_map]; exact hlt) hall.out))
        have c0 := (HM.out.grew hwr).cell (i := 0) rfl
        have c1 := (HM.out.grew hwr).cell (i := 1) rfl
        have c2 := (HM.out.grew hwr).cell (i := 2) rfl
        have c4 := (HM.out.grew hwr).cell (i := 4) rfl
        have d0 := (HN.out.grew hwr).cell (i := 0) rfl
        have d1 := (HN.out.grew hwr).cell (i := 1) rfl
        have d2 := (HN.out.grew hwr).cell (i := 2) rfl
        have d4 := (HN.out.grew hwr).cell (i := 4) rfl
        by_cases g0 : x0 = y0
        · subst g0
          by_cases g1 : x1 = y1
          · subst g1
            by_cases g2 : x2 = y2
            · subst g2
              by_cases g3 : x4 = y4
              · subst g3
                as_aux_lemma =>
                have HF := Lib.hid (HRY.out (by rw [HCE.out]))
                clear hall
                go_wp2_with (fail)
                go_ret
                exact ⟨by rw [HF.out]; rfl, HB.out.trans (Below.mono hwr HB.out.size)⟩
              · as_aux_lemma =>
                have e3 : (x4 == y4) = false := by simp [g3]
                have HF := Lib.hid (HRN.out (fun e => g3 (by simp only [Res.mk.injEq] at e; simp [e])))
                clear g3 hall
                go_wp2_with (fail)
                go_ret
                exact ⟨by rw [HF.out]; rfl, HB.out.trans (Below.mono hwr HB.out.size)⟩
            · as_aux_lemma =>
              have HF := Lib.hid (HRN.out (fun e => g2 (by simp only [Res.mk.injEq] at e; simp [e])))
              clear hall HRN
              cases x2 <;> cases y2 <;> first | exact absurd rfl g2 | (clear g2; go_wp2_with (fail); go_ret; exact ⟨by rw [HF.out]; rfl, HB.out.trans (Below.mono hwr HB.out.size)⟩)
          · as_aux_lemma =>
            have e1 : (x1 == y1) = false := by simp [g1]
            have HF := Lib.hid (HRN.out (fun e => g1 (by simp only [Res.mk.injEq] at e; simp [e])))
            clear g1 hall
            go_wp2_with (fail)
            go_ret
            exact ⟨by rw [HF.out]; rfl, HB.out.trans (Below.mono hwr HB.out.size)⟩
        · as_aux_lemma =>
          have e0 : (x0 == y0) = false := by simp [g0]
          have HF := Lib.hid (HRN.out (fun e => g0 (by simp only [Res.mk.injEq] at e; simp [e])))
          clear g0 hall
          go_wp2_with (fail)
          go_ret
          exact ⟨by rw [HF.out]; rfl, HB.out.trans (Below.mono hwr HB.out.size)⟩
  · as_aux_lemma =>
    have q0 : (L.length == M.length) = false := by rw [beq_eq_false_iff_ne]; exact hl
    have q1 : ((L.length : Int) == (M.length : Int)) = false := by rw [beq_eq_false_iff_ne]; omega
    have HF := Lib.hid (HRN.out (fun e => hl (by
        have e2 : L.map (·.1) = M.map (·.1) := by injection e
        have := congrArg List.length e2
        simpa using this)))
    go_wp2_with (fail)
    go_ret
    exact ⟨by rw [HF.out]; rfl, HB.out⟩
set_option maxRecDepth 100000 in
set_option maxHeartbeats 2000000 in
theorem same_any (x : Askd) (s1 s2 s3 u1 u2 u3 : Value) (w : World) (hx : RqAt w x.req s1 s2 s3) (hy : RqAt w x.req u1 u2 u3) (zx : x.req.sz) :
    Calls Try.prog 13 #[.agg (askdV x s1 s2 s3).toArray, .agg (askdV x u1 u2 u3).toArray] w fun e w' => e = .returned (.bool true) ∧ Below w.heap.size w w' := by
  obtain ⟨a1, p1, rfl⟩ := hx.h1.form
  obtain ⟨a2, p2, rfl⟩ := hx.h2.form
  obtain ⟨a3, p3, rfl⟩ := hx.h3.form
  obtain ⟨b1, q1, rfl⟩ := hy.h1.form
  obtain ⟨b2, q2, rfl⟩ := hy.h2.form
  obtain ⟨b3, q3, rfl⟩ := hy.h3.form
  obtain ⟨W, hW, hB, k1, k2⟩ := boxes2 w 30 34 (askdV x (.slice a1 x.req.cmp.length p1) (.slice a2 x.req.thn.length p2) (.slice a3 x.req.els.length p3)) (askdV x (.slice b1 x.req.cmp.length q1) (.slice b2 x.req.thn.length q2) (.slice b3 x.req.els.length q3))
  have HS : Hid (Calls Try.prog 22 #[.agg (rqV x.req (.slice a1 x.req.cmp.length p1) (.slice a2 x.req.thn.length p2) (.slice a3 x.req.els.length p3)).toArray, .agg (rqV x.req (.slice b1 x.req.cmp.length q1) (.slice b2 x.req.thn.length q2) (.slice b3 x.req.els.length q3)).toArray] W fun e w' => e = .returned (.bool true) ∧ Below W.heap.size W w') := by
    have := sameReq_any x.req x.req _ _ _ _ _ _ W (hx.grew hB) (hy.grew hB) zx zx
    rw [decide_eq_true rfl] at this
    exact Lib.hid this
  have HE := fun V => run_eql_rg x.rg x.rg V
  rw [decide_eq_true rfl] at HE
  have HM := Lib.hid k1
  have HN := Lib.hid k2
  have HB := Lib.hid hB
  have HW := Lib.hid hW
  clear hx hy k1 k2 hB hW zx
  unfold askdV at *
  unfold rqV at HS
  unfold rgV at HE
  have c0 := HM.out.cell (i := 0) rfl
  have d0 := HN.out.cell (i := 0) rfl
  have c1 := HM.out.cell (i := 1) rfl
  have d1 := HN.out.cell (i := 1) rfl
  have c2 := HM.out.cell (i := 2) rfl
  have d2 := HN.out.cell (i := 2) rfl
  have c3 := HM.out.cell (i := 3) rfl
  have d3 := HN.out.cell (i := 3) rfl
  have c4 := HM.out.cell (i := 4) rfl
  have d4 := HN.out.cell (i := 4) rfl
  have c5 := HM.out.cell (i := 5) rfl
  have d5 := HN.out.cell (i := 5) rfl
  have c6 := HM.out.cell (i := 6) rfl
  have d6 := HN.out.cell (i := 6) rfl
  have c7 := HM.out.cell (i := 7) rfl
  have d7 := HN.out.cell (i := 7) rfl
  have c8 := HM.out.cell (i := 8) rfl
  have d8 := HN.out.cell (i := 8) rfl
  have c9 := HM.out.cell (i := 9) rfl
  have d9 := HN.out.cell (i := 9) rfl
  have c10 := HM.out.cell (i := 10) rfl
  have d10 := HN.out.cell (i := 10) rfl
  have c11 := HM.out.cell (i := 11) rfl
  have d11 := HN.out.cell (i := 11) rfl
  have c12 := HM.out.cell (i := 12) rfl
  have d12 := HN.out.cell (i := 12) rfl
  have c13 := HM.out.cell (i := 13) rfl
  have d13 := HN.out.cell (i := 13) rfl
  have c14 := HM.out.cell (i := 14) rfl
  have d14 := HN.out.cell (i := 14) rfl
  have c15 := HM.out.cell (i := 15) rfl
  have d15 := HN.out.cell (i := 15) rfl
  have c16 := HM.out.cell (i := 16) rfl
  have d16 := HN.out.cell (i := 16) rfl
  go_enter Try.func13, Try.ntmps13
  go_upto_region 1 with (fail)
  rw [← HW.out]
  clear HW
  have e0 : (x.client == x.client) = true := by simp
  go_wp2_with (go_at_call 22; (with_reducible refine HS.out.mono ?_); rintro e w2 ⟨rfl, hb2⟩)
  go_ret
  exact ⟨rfl, HB.out.trans (hb2.mono HB.out.size)⟩
end Go.Proofs.Ytlcblkmmkphpmaa
