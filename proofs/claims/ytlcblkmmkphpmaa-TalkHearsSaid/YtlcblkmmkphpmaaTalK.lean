/- The walks of the reference's opsSame, SameKvs, SameRequest, SameResponse. Printed by gen/genTalK.py. Conditions: as each theorem says. -/
import Derived.Test.YtlcblkmmkphpmaaTalJ
namespace Go.Proofs.Ytlcblkmmkphpmaa
open Go.RowKit

set_option maxRecDepth 100000 in
set_option maxHeartbeats 1000000 in
theorem opsSame_any (A B : List Opr) (a b : Option Addr) (ca cb : Nat) (w : World) (hA : RowsAt 10 opV w (.slice a A.length ca) A) (hB : RowsAt 10 opV w (.slice b B.length cb) B) (hn : A.length ≤ M63) (hm : B.length ≤ M63) :
    Calls Try.prog 53 #[.slice a A.length ca, .slice b B.length cb] w fun e w' => e = .returned (.bool (decide (A = B))) ∧ Below w.heap.size w w' := by
  unfold M63 at hn hm
  have HA := Lib.hid hA
  have HB := Lib.hid hB
  clear hA hB
  by_cases hl : A.length = B.length
  · have HL := Lib.hid hl
    rw [← hl]
    go_enter Try.func53, Try.ntmps53
    clear hl
    go_wp2_with (fail)
    go_loopw [5] (fun v5 W => ∃ i : Nat, v5 = .int .i64 (i : Int) ∧ i ≤ A.length ∧ Hid (A.take i = B.take i) ∧ Below w.heap.size w W) (fun v5 _ => A.length - (intOf v5).toNat)
    case atStart => exact ⟨0, rfl, by omega, by show _ = _; simp, Below.refl _ _⟩
    case round =>
      obtain ⟨i, rfl, hi, hall, hbel⟩ := hrel
      have HBL := Lib.hid hbel
      by_cases hlt : i < A.length
      · have q0 : decide (i < A.length) = true := decide_eq_true hlt
        have hltb : i < B.length := by have := HL.out; omega
        have HA' := Lib.hid (HA.out.grew hbel)
        have HB' := Lib.hid (HB.out.grew hbel)
        clear hbel
        obtain ⟨ba, oa, rfl, hc⟩ := HA'.out.get i hlt
        obtain ⟨bb, ob, rfl, hd⟩ := HB'.out.get i hltb
        have c0 : wr.cell? ⟨ba, oa + i * 10, none⟩ = some _ := hc 0 _ rfl
        have c1 : wr.cell? ⟨ba, oa + i * 10 + 1, none⟩ = some _ := hc 1 _ rfl
        have c2 : wr.cell? ⟨ba, oa + i * 10 + 2, none⟩ = some _ := hc 2 _ rfl
        have c3 : wr.cell? ⟨ba, oa + i * 10 + 3, none⟩ = some _ := hc 3 _ rfl
        have c4 : wr.cell? ⟨ba, oa + i * 10 + 4, none⟩ = some _ := hc 4 _ rfl
        have c5 : wr.cell? ⟨ba, oa + i * 10 + 5, none⟩ = some _ := hc 5 _ rfl
        have c6 : wr.cell? ⟨ba, oa + i * 10 + 6, none⟩ = some _ := hc 6 _ rfl
        have c7 : wr.cell? ⟨ba, oa + i * 10 + 7, none⟩ = some _ := hc 7 _ rfl
        have c8 : wr.cell? ⟨ba, oa + i * 10 + 8, none⟩ = some _ := hc 8 _ rfl
        have c9 : wr.cell? ⟨ba, oa + i * 10 + 9, none⟩ = some _ := hc 9 _ rfl
        have d0 : wr.cell? ⟨bb, ob + i * 10, none⟩ = some _ := hd 0 _ rfl
        have d1 : wr.cell? ⟨bb, ob + i * 10 + 1, none⟩ = some _ := hd 1 _ rfl
        have d2 : wr.cell? ⟨bb, ob + i * 10 + 2, none⟩ = some _ := hd 2 _ rfl
        have d3 : wr.cell? ⟨bb, ob + i * 10 + 3, none⟩ = some _ := hd 3 _ rfl
        have d4 : wr.cell? ⟨bb, ob + i * 10 + 4, none⟩ = some _ := hd 4 _ rfl
        have d5 : wr.cell? ⟨bb, ob + i * 10 + 5, none⟩ = some _ := hd 5 _ rfl
        have d6 : wr.cell? ⟨bb, ob + i * 10 + 6, none⟩ = some _ := hd 6 _ rfl
        have d7 : wr.cell? ⟨bb, ob + i * 10 + 7, none⟩ = some _ := hd 7 _ rfl
        have d8 : wr.cell? ⟨bb, ob + i * 10 + 8, none⟩ = some _ := hd 8 _ rfl
        have d9 : wr.cell? ⟨bb, ob + i * 10 + 9, none⟩ = some _ := hd 9 _ rfl
        have HN := fun W => run_neq_op A[i] B[i] W
        by_cases he : A[i] = B[i]
        · as_aux_lemma =>
          rw [decide_eq_true he] at HN
          have HT := Lib.hid (same_take hlt hltb hall.out he)
          clear he hc hd hall
          generalize A[i] = x at *
          generalize B[i] = y at *
          unfold opV at HN
          go_wp2_with (fail)
          go_quiet (fail)
          all_goals (go_wp2_with (fail); go_roundw; (case rel => exact ⟨i + 1, by go_num, by omega, HT, below_drewN HBL.out _⟩); (case measure => simp [intOf]; omega))
        · as_aux_lemma =>
          rw [decide_eq_false he] at HN
          have HF := Lib.hid (same_stop hlt hltb he)
          clear he hc hd hall
          generalize A[i] = x at *
          generalize B[i] = y at *
          unfold opV at HN
          go_wp2_with (fail)
          go_quiet (fail)
          all_goals (go_wp2_with (fail); go_ret; exact ⟨by rw [HF.out]; rfl, below_drewN HBL.out _⟩)
      · as_aux_lemma =>
        have q0 : decide (i < A.length) = false := decide_eq_false hlt
        have HF := Lib.hid (same_end HL.out hlt hall.out)
        clear hall hbel
        go_wp2_with (fail)
        go_ret
        exact ⟨by rw [HF.out]; rfl, HBL.out⟩
  · as_aux_lemma =>
    have HF := Lib.hid (same_len hl)
    have q0 : (A.length == B.length) = false := by rw [beq_eq_false_iff_ne]; exact hl
    have q1 : ((A.length : Int) == (B.length : Int)) = false := by rw [beq_eq_false_iff_ne]; omega
    go_enter Try.func53, Try.ntmps53
    go_wp2_with (fail)
    go_ret
    exact ⟨by rw [HF.out]; rfl, Below.refl _ _⟩
set_option maxRecDepth 100000 in
set_option maxHeartbeats 1000000 in
theorem kvsSame_any (A B : List Kvr) (a b : Option Addr) (ca cb : Nat) (w : World) (hA : RowsAt 6 kvV w (.slice a A.length ca) A) (hB : RowsAt 6 kvV w (.slice b B.length cb) B) (hn : A.length ≤ M63) (hm : B.length ≤ M63) :
    Calls Try.prog 54 #[.slice a A.length ca, .slice b B.length cb] w fun e w' => e = .returned (.bool (decide (A = B))) ∧ Below w.heap.size w w' := by
  unfold M63 at hn hm
  have HA := Lib.hid hA
  have HB := Lib.hid hB
  clear hA hB
  by_cases hl : A.length = B.length
  · have HL := Lib.hid hl
    rw [← hl]
    go_enter Try.func54, Try.ntmps54
    clear hl
    go_wp2_with (fail)
    go_loopw [5] (fun v5 W => ∃ i : Nat, v5 = .int .i64 (i : Int) ∧ i ≤ A.length ∧ Hid (A.take i = B.take i) ∧ Below w.heap.size w W) (fun v5 _ => A.length - (intOf v5).toNat)
    case atStart => exact ⟨0, rfl, by omega, by show _ = _; simp, Below.refl _ _⟩
    case round =>
      obtain ⟨i, rfl, hi, hall, hbel⟩ := hrel
      have HBL := Lib.hid hbel
      by_cases hlt : i < A.length
      · have q0 : decide (i < A.length) = true := decide_eq_true hlt
        have hltb : i < B.length := by have := HL.out; omega
        have HA' := Lib.hid (HA.out.grew hbel)
        have HB' := Lib.hid (HB.out.grew hbel)
        clear hbel
        obtain ⟨ba, oa, rfl, hc⟩ := HA'.out.get i hlt
        obtain ⟨bb, ob, rfl, hd⟩ := HB'.out.get i hltb
        have c0 : wr.cell? ⟨ba, oa + i * 6, none⟩ = some _ := hc 0 _ rfl
        have c1 : wr.cell? ⟨ba, oa + i * 6 + 1, none⟩ = some _ := hc 1 _ rfl
        have c2 : wr.cell? ⟨ba, oa + i * 6 + 2, none⟩ = some _ := hc 2 _ rfl
        have c3 : wr.cell? ⟨ba, oa + i * 6 + 3, none⟩ = some _ := hc 3 _ rfl
        have c4 : wr.cell? ⟨ba, oa + i * 6 + 4, none⟩ = some _ := hc 4 _ rfl
        have c5 : wr.cell? ⟨ba, oa + i * 6 + 5, none⟩ = some _ := hc 5 _ rfl
        have d0 : wr.cell? ⟨bb, ob + i * 6, none⟩ = some _ := hd 0 _ rfl
        have d1 : wr.cell? ⟨bb, ob + i * 6 + 1, none⟩ = some _ := hd 1 _ rfl
        have d2 : wr.cell? ⟨bb, ob + i * 6 + 2, none⟩ = some _ := hd 2 _ rfl
        have d3 : wr.cell? ⟨bb, ob + i * 6 + 3, none⟩ = some _ := hd 3 _ rfl
        have d4 : wr.cell? ⟨bb, ob + i * 6 + 4, none⟩ = some _ := hd 4 _ rfl
        have d5 : wr.cell? ⟨bb, ob + i * 6 + 5, none⟩ = some _ := hd 5 _ rfl
        have HN := fun W => run_neq_kv A[i] B[i] W
        by_cases he : A[i] = B[i]
        · as_aux_lemma =>
          rw [decide_eq_true he] at HN
          have HT := Lib.hid (same_take hlt hltb hall.out he)
          clear he hc hd hall
          generalize A[i] = x at *
          generalize B[i] = y at *
          unfold kvV at HN
          go_wp2_with (fail)
          go_quiet (fail)
          all_goals (go_wp2_with (fail); go_roundw; (case rel => exact ⟨i + 1, by go_num, by omega, HT, below_drewN HBL.out _⟩); (case measure => simp [intOf]; omega))
        · as_aux_lemma =>
          rw [decide_eq_false he] at HN
          have HF := Lib.hid (same_stop hlt hltb he)
          clear he hc hd hall
          generalize A[i] = x at *
          generalize B[i] = y at *
          unfold kvV at HN
          go_wp2_with (fail)
          go_quiet (fail)
          all_goals (go_wp2_with (fail); go_ret; exact ⟨by rw [HF.out]; rfl, below_drewN HBL.out _⟩)
      · as_aux_lemma =>
        have q0 : decide (i < A.length) = false := decide_eq_false hlt
        have HF := Lib.hid (same_end HL.out hlt hall.out)
        clear hall hbel
        go_wp2_with (fail)
        go_ret
        exact ⟨by rw [HF.out]; rfl, HBL.out⟩
  · as_aux_lemma =>
    have HF := Lib.hid (same_len hl)
    have q0 : (A.length == B.length) = false := by rw [beq_eq_false_iff_ne]; exact hl
    have q1 : ((A.length : Int) == (B.length : Int)) = false := by rw [beq_eq_false_iff_ne]; omega
    go_enter Try.func54, Try.ntmps54
    go_wp2_with (fail)
    go_ret
    exact ⟨by rw [HF.out]; rfl, Below.refl _ _⟩
theorem req_ext {x y : Req} (h0 : x.kind = y.kind) (h1 : x.cmp = y.cmp) (h2 : x.thn = y.thn) (h3 : x.els = y.els) (h4 : x.rev = y.rev) (h5 : x.lease = y.lease) (h6 : x.ticks = y.ticks) : x = y := by
  cases x; cases y; simp_all
/-- Two boxes. -/
theorem boxes2 (w : World) (T1 T2 : TypeId) (c1 c2 : List Value) : ∃ X, X = (w.alloc (.cells c1.toArray T1)).alloc (.cells c2.toArray T2) ∧ Below w.heap.size w X ∧ BlkAt w.heap.size T1 c1 X ∧ BlkAt (w.heap.size + 1) T2 c2 X := by
  refine ⟨_, rfl, ?_, ?_, ?_⟩
  · have a := alloc_below w (.cells c1.toArray T1)
    have b := alloc_below (w.alloc (.cells c1.toArray T1)) (.cells c2.toArray T2)
    exact a.trans (b.mono a.size)
  · exact (BlkAt.alloc_new w c1 T1).grew (alloc_below _ _)
  · have h := BlkAt.alloc_new (w.alloc (.cells c1.toArray T1)) c2 T2
    rw [← size1] at h
    exact h
set_option maxRecDepth 100000 in
set_option maxHeartbeats 2000000 in
theorem sameReq_any (x y : Req) (s1 s2 s3 u1 u2 u3 : Value) (w : World) (hx : RqAt w x s1 s2 s3) (hy : RqAt w y u1 u2 u3) (zx : x.sz) (zy : y.sz) :
    Calls Try.prog 22 #[.agg (rqV x s1 s2 s3).toArray, .agg (rqV y u1 u2 u3).toArray] w fun e w' => e = .returned (.bool (decide (x = y))) ∧ Below w.heap.size w w' := by
  obtain ⟨a1, p1, rfl⟩ := hx.h1.form
  obtain ⟨a2, p2, rfl⟩ := hx.h2.form
  obtain ⟨a3, p3, rfl⟩ := hx.h3.form
  obtain ⟨b1, q1, rfl⟩ := hy.h1.form
  obtain ⟨b2, q2, rfl⟩ := hy.h2.form
  obtain ⟨b3, q3, rfl⟩ := hy.h3.form
  obtain ⟨W, hW, hB, k1, k2⟩ := boxes2 w 26 26 (rqV x (.slice a1 x.cmp.length p1) (.slice a2 x.thn.length p2) (.slice a3 x.els.length p3)) (rqV y (.slice b1 y.cmp.length q1) (.slice b2 y.thn.length q2) (.slice b3 y.els.length q3))
  have hxW := hx.grew hB
  have hyW := hy.grew hB
  have HO2 := Lib.hid (fun X (hX : Grew W X) => opsSame_any x.thn y.thn a2 b2 p2 q2 X (hxW.h2.grew hX) (hyW.h2.grew hX) zx.1.2.1 zy.1.2.1)
  have HO3 := Lib.hid (fun X (hX : Grew W X) => opsSame_any x.els y.els a3 b3 p3 q3 X (hxW.h3.grew hX) (hyW.h3.grew hX) zx.1.2.2 zy.1.2.2)
  have HX1 := Lib.hid hxW.h1
  have HY1 := Lib.hid hyW.h1
  have HM := Lib.hid k1
  have HN := Lib.hid k2
  have HB := Lib.hid hB
  have HW := Lib.hid hW
  have hn := zx.1.1
  have hm := zy.1.1
  unfold M63 at hn hm
  clear hx hy hxW hyW k1 k2 hB hW zx zy
  unfold rqV at *
  have m1 := HM.out.cell (i := 1) rfl
  have n1 := HN.out.cell (i := 1) rfl
  go_enter Try.func22, Try.ntmps22
  go_upto_region 1 with (fail)
  rw [← HW.out]
  clear HW
  by_cases hl : x.cmp.length = y.cmp.length
  · have HL := Lib.hid hl
    have q0 : (x.cmp.length == y.cmp.length) = true := by simp [hl]
    clear hl
    go_wp2_with (fail)
    clear q0
    go_loopw [5] (fun v5 V => ∃ i : Nat, v5 = .int .i64 (i : Int) ∧ i ≤ x.cmp.length ∧ Hid (x.cmp.take i = y.cmp.take i) ∧ Grew W V) (fun v5 _ => x.cmp.length - (intOf v5).toNat)
    case atStart => exact ⟨0, rfl, by omega, by show _ = _; simp, Grew.refl _⟩
    case round =>
      obtain ⟨i, rfl, hi, hall, hwr⟩ := hrel
      have m1 := (HM.out.grew hwr).cell (i := 1) rfl
      have n1 := (HN.out.grew hwr).cell (i := 1) rfl
      by_cases hlt : i < x.cmp.length
      · have q0 : decide (i < x.cmp.length) = true := decide_eq_true hlt
        have hltb : i < y.cmp.length := by have := HL.out; omega
        have HA' := Lib.hid (HX1.out.grew hwr)
        have HB' := Lib.hid (HY1.out.grew hwr)
        obtain ⟨ba, oa, rfl, hc⟩ := HA'.out.get i hlt
        obtain ⟨bb, ob, rfl, hd⟩ := HB'.out.get i hltb
        have c0 : wr.cell? ⟨ba, oa + i * 5, none⟩ = some _ := hc 0 _ rfl
        have c1 : wr.cell? ⟨ba, oa + i * 5 + 1, none⟩ = some _ := hc 1 _ rfl
        have c2 : wr.cell? ⟨ba, oa + i * 5 + 2, none⟩ = some _ := hc 2 _ rfl
        have c3 : wr.cell? ⟨ba, oa + i * 5 + 3, none⟩ = some _ := hc 3 _ rfl
        have c4 : wr.cell? ⟨ba, oa + i * 5 + 4, none⟩ = some _ := hc 4 _ rfl
        have d0 : wr.cell? ⟨bb, ob + i * 5, none⟩ = some _ := hd 0 _ rfl
        have d1 : wr.cell? ⟨bb, ob + i * 5 + 1, none⟩ = some _ := hd 1 _ rfl
        have d2 : wr.cell? ⟨bb, ob + i * 5 + 2, none⟩ = some _ := hd 2 _ rfl
        have d3 : wr.cell? ⟨bb, ob + i * 5 + 3, none⟩ = some _ := hd 3 _ rfl
        have d4 : wr.cell? ⟨bb, ob + i * 5 + 4, none⟩ = some _ := hd 4 _ rfl
        have HNE := fun V => run_neq_cp x.cmp[i] y.cmp[i] V
        have HWR := Lib.hid hwr
        by_cases he : x.cmp[i] = y.cmp[i]
        · as_aux_lemma =>
          rw [decide_eq_true he] at HNE
          have HT := Lib.hid (same_take hlt hltb hall.out he)
          clear he hc hd hall HO2 HO3 hwr
          generalize x.cmp[i] = x1 at *
          generalize y.cmp[i] = y1 at *
          unfold cpV at HNE
          go_wp2_with (fail)
          go_quiet (fail)
          all_goals (go_wp2_with (fail); go_roundw; (case rel => exact ⟨i + 1, by go_num, by omega, HT, below_drewN HWR.out _⟩); (case measure => simp [intOf]; omega))
        · as_aux_lemma =>
          rw [decide_eq_false he] at HNE
          have HF : Hid (decide (x = y) = false) := Lib.hid (decide_eq_false (fun e => he (by subst e; rfl)))
          clear he hc hd hall HO2 HO3 hwr
          generalize x.cmp[i] = x1 at *
          generalize y.cmp[i] = y1 at *
          unfold cpV at HNE
          go_wp2_with (fail)
          go_quiet (fail)
          all_goals (go_wp2_with (fail); go_ret; exact ⟨by rw [HF.out]; rfl, HB.out.trans (Below.mono (below_drewN HWR.out _) HB.out.size)⟩)
      · have q0 : decide (i < x.cmp.length) = false := decide_eq_false hlt
        have HCE := Lib.hid (show x.cmp = y.cmp from of_decide_eq_true (same_end HL.out hlt hall.out))
        have c0 := (HM.out.grew hwr).cell (i := 0) rfl
        have c2 := (HM.out.grew hwr).cell (i := 2) rfl
        have d0 := (HN.out.grew hwr).cell (i := 0) rfl
        have d2 := (HN.out.grew hwr).cell (i := 2) rfl
        by_cases g0 : x.kind = y.kind
        · have e0 : (x.kind == y.kind) = true := by simp [g0]
          by_cases g1 : x.thn = y.thn
          · rw [decide_eq_true g1] at HO2
            by_cases g2 : x.els = y.els
            · rw [decide_eq_true g2] at HO3
              by_cases g3 : x.rev = y.rev
              · have e3 : (x.rev == y.rev) = true := by simp [g3]
                by_cases g4 : x.lease = y.lease
                · have e4 : (x.lease == y.lease) = true := by simp [g4]
                  by_cases g5 : x.ticks = y.ticks
                  · have e5 : (x.ticks == y.ticks) = true := by simp [g5]
                    have HF : Hid (decide (x = y) = true) := Lib.hid (decide_eq_true (req_ext g0 HCE.out g1 g2 g3 g4 g5))
                    clear g0 g1 g2 g3 g4 g5 hall
                    go_wp2_with (first
                      | (go_at_call 53; (with_reducible refine (HO2.out _ hwr).mono ?_); rintro e w2 ⟨rfl, hb2⟩; have hg2 := hwr.step hb2; clear HO2; have c3 := (HM.out.grew hg2).cell (i := 3) rfl; have c4 := (HM.out.grew hg2).cell (i := 4) rfl; have c5 := (HM.out.grew hg2).cell (i := 5) rfl; have c6 := (HM.out.grew hg2).cell (i := 6) rfl; have d3 := (HN.out.grew hg2).cell (i := 3) rfl; have d4 := (HN.out.grew hg2).cell (i := 4) rfl; have d5 := (HN.out.grew hg2).cell (i := 5) rfl; have d6 := (HN.out.grew hg2).cell (i := 6) rfl; clear hb2)
                      | (go_at_call 53; (with_reducible refine (HO3.out _ hg2).mono ?_); rintro e w3 ⟨rfl, hb3⟩; have hg3 := hg2.step hb3; clear HO3; have c4 := (HM.out.grew hg3).cell (i := 4) rfl; have c5 := (HM.out.grew hg3).cell (i := 5) rfl; have c6 := (HM.out.grew hg3).cell (i := 6) rfl; have d4 := (HN.out.grew hg3).cell (i := 4) rfl; have d5 := (HN.out.grew hg3).cell (i := 5) rfl; have d6 := (HN.out.grew hg3).cell (i := 6) rfl; clear hb3))
                    go_ret
                    exact ⟨by rw [HF.out]; rfl, HB.out.trans (Below.mono hg3 HB.out.size)⟩
                  · as_aux_lemma =>
                    have e5 : (x.ticks == y.ticks) = false := by simp [g5]
                    have HF : Hid (decide (x = y) = false) := Lib.hid (decide_eq_false (fun e => g5 (by rw [e])))
                    clear g0 g1 g2 g3 g4 g5 hall
                    go_wp2_with (first
                      | (go_at_call 53; (with_reducible refine (HO2.out _ hwr).mono ?_); rintro e w2 ⟨rfl, hb2⟩; have hg2 := hwr.step hb2; clear HO2; have c3 := (HM.out.grew hg2).cell (i := 3) rfl; have c4 := (HM.out.grew hg2).cell (i := 4) rfl; have c5 := (HM.out.grew hg2).cell (i := 5) rfl; have c6 := (HM.out.grew hg2).cell (i := 6) rfl; have d3 := (HN.out.grew hg2).cell (i := 3) rfl; have d4 := (HN.out.grew hg2).cell (i := 4) rfl; have d5 := (HN.out.grew hg2).cell (i := 5) rfl; have d6 := (HN.out.grew hg2).cell (i := 6) rfl; clear hb2)
                      | (go_at_call 53; (with_reducible refine (HO3.out _ hg2).mono ?_); rintro e w3 ⟨rfl, hb3⟩; have hg3 := hg2.step hb3; clear HO3; have c4 := (HM.out.grew hg3).cell (i := 4) rfl; have c5 := (HM.out.grew hg3).cell (i := 5) rfl; have c6 := (HM.out.grew hg3).cell (i := 6) rfl; have d4 := (HN.out.grew hg3).cell (i := 4) rfl; have d5 := (HN.out.grew hg3).cell (i := 5) rfl; have d6 := (HN.out.grew hg3).cell (i := 6) rfl; clear hb3))
                    go_ret
                    exact ⟨by rw [HF.out]; rfl, HB.out.trans (Below.mono hg3 HB.out.size)⟩
                · as_aux_lemma =>
                  have e4 : (x.lease == y.lease) = false := by simp [g4]
                  have HF : Hid (decide (x = y) = false) := Lib.hid (decide_eq_false (fun e => g4 (by rw [e])))
                  clear g0 g1 g2 g3 g4 hall
                  go_wp2_with (first
                    | (go_at_call 53; (with_reducible refine (HO2.out _ hwr).mono ?_); rintro e w2 ⟨rfl, hb2⟩; have hg2 := hwr.step hb2; clear HO2; have c3 := (HM.out.grew hg2).cell (i := 3) rfl; have c4 := (HM.out.grew hg2).cell (i := 4) rfl; have c5 := (HM.out.grew hg2).cell (i := 5) rfl; have c6 := (HM.out.grew hg2).cell (i := 6) rfl; have d3 := (HN.out.grew hg2).cell (i := 3) rfl; have d4 := (HN.out.grew hg2).cell (i := 4) rfl; have d5 := (HN.out.grew hg2).cell (i := 5) rfl; have d6 := (HN.out.grew hg2).cell (i := 6) rfl; clear hb2)
                    | (go_at_call 53; (with_reducible refine (HO3.out _ hg2).mono ?_); rintro e w3 ⟨rfl, hb3⟩; have hg3 := hg2.step hb3; clear HO3; have c4 := (HM.out.grew hg3).cell (i := 4) rfl; have c5 := (HM.out.grew hg3).cell (i := 5) rfl; have c6 := (HM.out.grew hg3).cell (i := 6) rfl; have d4 := (HN.out.grew hg3).cell (i := 4) rfl; have d5 := (HN.out.grew hg3).cell (i := 5) rfl; have d6 := (HN.out.grew hg3).cell (i := 6) rfl; clear hb3))
                  go_ret
                  exact ⟨by rw [HF.out]; rfl, HB.out.trans (Below.mono hg3 HB.out.size)⟩
              · as_aux_lemma =>
                have e3 : (x.rev == y.rev) = false := by simp [g3]
                have HF : Hid (decide (x = y) = false) := Lib.hid (decide_eq_false (fun e => g3 (by rw [e])))
                clear g0 g1 g2 g3 hall
                go_wp2_with (first
                  | (go_at_call 53; (with_reducible refine (HO2.out _ hwr).mono ?_); rintro e w2 ⟨rfl, hb2⟩; have hg2 := hwr.step hb2; clear HO2; have c3 := (HM.out.grew hg2).cell (i := 3) rfl; have c4 := (HM.out.grew hg2).cell (i := 4) rfl; have c5 := (HM.out.grew hg2).cell (i := 5) rfl; have c6 := (HM.out.grew hg2).cell (i := 6) rfl; have d3 := (HN.out.grew hg2).cell (i := 3) rfl; have d4 := (HN.out.grew hg2).cell (i := 4) rfl; have d5 := (HN.out.grew hg2).cell (i := 5) rfl; have d6 := (HN.out.grew hg2).cell (i := 6) rfl; clear hb2)
                  | (go_at_call 53; (with_reducible refine (HO3.out _ hg2).mono ?_); rintro e w3 ⟨rfl, hb3⟩; have hg3 := hg2.step hb3; clear HO3; have c4 := (HM.out.grew hg3).cell (i := 4) rfl; have c5 := (HM.out.grew hg3).cell (i := 5) rfl; have c6 := (HM.out.grew hg3).cell (i := 6) rfl; have d4 := (HN.out.grew hg3).cell (i := 4) rfl; have d5 := (HN.out.grew hg3).cell (i := 5) rfl; have d6 := (HN.out.grew hg3).cell (i := 6) rfl; clear hb3))
                go_ret
                exact ⟨by rw [HF.out]; rfl, HB.out.trans (Below.mono hg3 HB.out.size)⟩
            · as_aux_lemma =>
              rw [decide_eq_false g2] at HO3
              have HF : Hid (decide (x = y) = false) := Lib.hid (decide_eq_false (fun e => g2 (by rw [e])))
              clear g0 g1 g2 hall
              go_wp2_with (first
                | (go_at_call 53; (with_reducible refine (HO2.out _ hwr).mono ?_); rintro e w2 ⟨rfl, hb2⟩; have hg2 := hwr.step hb2; clear HO2; have c3 := (HM.out.grew hg2).cell (i := 3) rfl; have c4 := (HM.out.grew hg2).cell (i := 4) rfl; have c5 := (HM.out.grew hg2).cell (i := 5) rfl; have c6 := (HM.out.grew hg2).cell (i := 6) rfl; have d3 := (HN.out.grew hg2).cell (i := 3) rfl; have d4 := (HN.out.grew hg2).cell (i := 4) rfl; have d5 := (HN.out.grew hg2).cell (i := 5) rfl; have d6 := (HN.out.grew hg2).cell (i := 6) rfl; clear hb2)
                | (go_at_call 53; (with_reducible refine (HO3.out _ hg2).mono ?_); rintro e w3 ⟨rfl, hb3⟩; have hg3 := hg2.step hb3; clear HO3; have c4 := (HM.out.grew hg3).cell (i := 4) rfl; have c5 := (HM.out.grew hg3).cell (i := 5) rfl; have c6 := (HM.out.grew hg3).cell (i := 6) rfl; have d4 := (HN.out.grew hg3).cell (i := 4) rfl; have d5 := (HN.out.grew hg3).cell (i := 5) rfl; have d6 := (HN.out.grew hg3).cell (i := 6) rfl; clear hb3))
              go_ret
              exact ⟨by rw [HF.out]; rfl, HB.out.trans (Below.mono hg3 HB.out.size)⟩
          · as_aux_lemma =>
            rw [decide_eq_false g1] at HO2
            have HF : Hid (decide (x = y) = false) := Lib.hid (decide_eq_false (fun e => g1 (by rw [e])))
            clear g0 g1 hall
            go_wp2_with (first
              | (go_at_call 53; (with_reducible refine (HO2.out _ hwr).mono ?_); rintro e w2 ⟨rfl, hb2⟩; have hg2 := hwr.step hb2; clear HO2; have c3 := (HM.out.grew hg2).cell (i := 3) rfl; have c4 := (HM.out.grew hg2).cell (i := 4) rfl; have c5 := (HM.out.grew hg2).cell (i := 5) rfl; have c6 := (HM.out.grew hg2).cell (i := 6) rfl; have d3 := (HN.out.grew hg2).cell (i := 3) rfl; have d4 := (HN.out.grew hg2).cell (i := 4) rfl; have d5 := (HN.out.grew hg2).cell (i := 5) rfl; have d6 := (HN.out.grew hg2).cell (i := 6) rfl; clear hb2)
              | (go_at_call 53; (with_reducible refine (HO3.out _ hg2).mono ?_); rintro e w3 ⟨rfl, hb3⟩; have hg3 := hg2.step hb3; clear HO3; have c4 := (HM.out.grew hg3).cell (i := 4) rfl; have c5 := (HM.out.grew hg3).cell (i := 5) rfl; have c6 := (HM.out.grew hg3).cell (i := 6) rfl; have d4 := (HN.out.grew hg3).cell (i := 4) rfl; have d5 := (HN.out.grew hg3).cell (i := 5) rfl; have d6 := (HN.out.grew hg3).cell (i := 6) rfl; clear hb3))
            go_ret
            exact ⟨by rw [HF.out]; rfl, HB.out.trans (Below.mono hg2 HB.out.size)⟩
        · as_aux_lemma =>
          have e0 : (x.kind == y.kind) = false := by simp [g0]
          have HF : Hid (decide (x = y) = false) := Lib.hid (decide_eq_false (fun e => g0 (by rw [e])))
          clear g0 hall
          go_wp2_with (first
            | (go_at_call 53; (with_reducible refine (HO2.out _ hwr).mono ?_); rintro e w2 ⟨rfl, hb2⟩; have hg2 := hwr.step hb2; clear HO2; have c3 := (HM.out.grew hg2).cell (i := 3) rfl; have c4 := (HM.out.grew hg2).cell (i := 4) rfl; have c5 := (HM.out.grew hg2).cell (i := 5) rfl; have c6 := (HM.out.grew hg2).cell (i := 6) rfl; have d3 := (HN.out.grew hg2).cell (i := 3) rfl; have d4 := (HN.out.grew hg2).cell (i := 4) rfl; have d5 := (HN.out.grew hg2).cell (i := 5) rfl; have d6 := (HN.out.grew hg2).cell (i := 6) rfl; clear hb2)
            | (go_at_call 53; (with_reducible refine (HO3.out _ hg2).mono ?_); rintro e w3 ⟨rfl, hb3⟩; have hg3 := hg2.step hb3; clear HO3; have c4 := (HM.out.grew hg3).cell (i := 4) rfl; have c5 := (HM.out.grew hg3).cell (i := 5) rfl; have c6 := (HM.out.grew hg3).cell (i := 6) rfl; have d4 := (HN.out.grew hg3).cell (i := 4) rfl; have d5 := (HN.out.grew hg3).cell (i := 5) rfl; have d6 := (HN.out.grew hg3).cell (i := 6) rfl; clear hb3))
          go_ret
          exact ⟨by rw [HF.out]; rfl, HB.out.trans (Below.mono hwr HB.out.size)⟩
  · as_aux_lemma =>
    have q0 : (x.cmp.length == y.cmp.length) = false := by rw [beq_eq_false_iff_ne]; exact hl
    have q1 : ((x.cmp.length : Int) == (y.cmp.length : Int)) = false := by rw [beq_eq_false_iff_ne]; omega
    have HF : Hid (decide (x = y) = false) := Lib.hid (decide_eq_false (fun e => hl (by rw [e])))
    clear HO2 HO3
    go_wp2_with (fail)
    go_ret
    exact ⟨by rw [HF.out]; rfl, HB.out⟩
end Go.Proofs.Ytlcblkmmkphpmaa
