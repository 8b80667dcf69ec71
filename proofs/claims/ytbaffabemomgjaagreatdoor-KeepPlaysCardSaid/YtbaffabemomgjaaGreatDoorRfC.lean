/- The reference's disk: the walk of put. Conditions: as the theorem says. -/
import Derived.Test.YtbaffabemomgjaaGreatDoorRfB
namespace Go.Proofs.YtbaffabemomgjaaGreatDoor
open Go.RowKit

section
variable {base g : Nat} {d : Dk} {w : World}
set_option maxRecDepth 100000 in
set_option maxHeartbeats 6400000 in
theorem rput_any (h : RdAt base g d w) (hs : d.m.sorted) (hn : d.m.length < 900000) (k : Bys) (f : Fil) :
    Calls Tryz.prog 45 #[ptrV g, .agg #[.string (bs k), .string (bs f.d), .int .i64 f.s]] w fun e w' => e = .returned (.tuple #[]) ∧ RdAt base g { d with m := putM d.m k f } w' ∧ Apart (Just g) w w' := by
  have HP := Lib.hid (putRest_put k f hs)
  clear hs
  obtain ⟨a, cap, h⟩ := h
  have H := Lib.hid h
  have hgl := h.blk.lt
  have hbg := h.le
  have hal := alloc_below w (.cells (rfC (k, f)).toArray RfT)
  have hbx := BlkAt.alloc_new w (rfC (k, f)) RfT
  have hws : (w.alloc (.cells (rfC (k, f)).toArray RfT)).heap.size = w.heap.size + 1 := by simp
  clear h
  unfold rfC at hal hbx hws
  unfold ptrV
  go_enter Tryz.func45, Tryz.ntmps45
  go_wp2_with (fail)
  obtain ⟨wb, hwb⟩ : ∃ wb, wb = w.alloc (.cells #[.string (bs k), .string (bs f.d), .int .i64 f.s] RfT) := ⟨_, rfl⟩
  rw [← hwb] at hal hbx hws ⊢
  clear hwb
  have Hal := Lib.hid hal
  have Hbx := Lib.hid hbx
  clear hal hbx
  go_loopw [4, 5, 6] (fun v4 v5 v6 W => ∃ (i : Nat) (v : Value) (q : Bool) (O : Dir), v6 = .int .i64 (i : Int) ∧ v4 = v ∧ v5 = .bool q ∧ i ≤ d.m.length ∧ putM d.m k f = O ++ putRest k f q (d.m.drop i) ∧ O.length + (if q then 0 else 1) ≤ i + 1 ∧ GrowF wb.heap.size v O W ∧ Below wb.heap.size wb W) (fun _ _ v6 _ => d.m.length - (intOf v6).toNat)
  case atStart => exact ⟨0, _, false, [], rfl, rfl, rfl, by omega, HP.out.symm, by simp, Grow.nil _, Below.refl _ _⟩
  case round =>
    obtain ⟨i, v, q, O, rfl, rfl, rfl, hi, hM, hO, hG, hB⟩ := hrel
    have hsz := hB.size
    have HW := Lib.hid (fun (W : World) (hW : Below wb.heap.size wb W) => H.out.grew (Hal.out.trans (hW.mono (by omega))))
    have HX := Lib.hid (fun (W : World) (hW : Below wb.heap.size wb W) => Hbx.out.grew hW)
    have HB := Lib.hid hB
    have c0 := (HW.out _ hB).blk.cell (i := 0) rfl
    clear hB H
    by_cases hlt : i < d.m.length
    · have q0 : decide (i < d.m.length) = true := decide_eq_true hlt
      have HC : Hid (∃ gb, a = some ⟨gb, 0, none⟩ ∧ ∀ W, Below wb.heap.size wb W → W.cell? ⟨g, 0, none⟩ = some (.slice a d.m.length cap) ∧ W.cell? ⟨gb, i * 3, none⟩ = some (.string (bs d.m[i].1)) ∧ W.cell? ⟨gb, i * 3 + 1, none⟩ = some (.string (bs d.m[i].2.d)) ∧ W.cell? ⟨gb, i * 3 + 2, none⟩ = some (.int .i64 d.m[i].2.s) ∧
          W.cell? ⟨w.heap.size, 0, none⟩ = some (.string (bs k)) ∧ W.cell? ⟨w.heap.size, 1, none⟩ = some (.string (bs f.d)) ∧ W.cell? ⟨w.heap.size, 2, none⟩ = some (.int .i64 f.s)) := by
        obtain ⟨gb, ha, _, _⟩ := (HW.out _ HB.out).get i hlt
        refine Lib.hid ⟨gb, ha, fun W hW => ?_⟩
        obtain ⟨gb2, ha2, _, r0, r1, r2⟩ := (HW.out _ hW).get i hlt
        have e : gb = gb2 := by rw [ha] at ha2; simpa using ha2
        subst e
        exact ⟨(HW.out _ hW).blk.cell (i := 0) rfl, r0, r1, r2, (HX.out _ hW).cell (i := 0) rfl, (HX.out _ hW).cell (i := 1) rfl, (HX.out _ hW).cell (i := 2) rfl⟩
      obtain ⟨gb, hagb, HC⟩ := HC.out
      subst hagb
      have HC := Lib.hid HC
      have i0 : (0 : Int) ≤ (i : Int) := by omega
      have i1 : (i : Int) < (d.m.length : Int) := by omega
      have hsplit := List.drop_eq_getElem_cons hlt
      rw [hsplit, putRest_cons] at hM
      clear hsplit HW HX HP
      generalize d.m[i] = x at *
      have hlb : Op.bytesLess (bs x.1).toList (bs k).toList = bytesBefore x.1 k := by rw [bs_toList, bs_toList, less_before]
      have hnb : bytesBefore x.1 k = true → x.1 ≠ k := before_ne
      cases q with
      | true =>
        by_cases hne : x.1 = k
        · as_aux_lemma =>
          cases hb : bytesBefore x.1 k with
          | true => exact absurd hne (hnb hb)
          | false =>
            obtain ⟨c0, r0, r1, r2, b0, b1, b2⟩ := HC.out _ HB.out
            simp only [if_true, Bool.false_eq_true, if_false] at hO
            simp only [hb, Go.WideAt.bytes_irrefl, Bool.not_true, Bool.not_false, Bool.and_true, Bool.and_false, Bool.true_and, Bool.false_and, Bool.or_true, Bool.or_false, Bool.true_or, Bool.false_or, if_true, if_false, Bool.false_eq_true, List.nil_append, hne, ne_eq, not_true_eq_false, not_false_eq_true] at hM
            have s1 : Op.bytesLess (bs x.1).toList (bs k).toList = false := by rw [hlb, hb]
            have s2 : (!Op.bytesLess (bs x.1).toList (bs k).toList) = true := by rw [s1]; rfl
            have s3 : ((bs x.1).toList == (bs k).toList) = true := by rw [hne]; exact beq_self_eq_true _
            have s4 : ((bs x.1).toList != (bs k).toList) = false := by rw [bne, s3]; rfl
            have HM := Lib.hid hM
            clear hM hb hne hlb hnb
            go_wp2_with (fail)
            go_quiet (fail)
            have HB := Lib.hid (below_drewN HB.out nq)
            have hG := hG.below (below_drewN (Below.refl _ wr) nq)
            have hsz : wb.heap.size ≤ (wr.drewN nq).heap.size := hsz
            generalize wr.drewN nq = w3 at *
            obtain ⟨c0, r0, r1, r2, b0, b1, b2⟩ := HC.out _ HB.out
            go_wp2_with (fail)
            go_quiet (fail)
            have HB := Lib.hid (below_drewN HB.out nq)
            have hG := hG.below (below_drewN (Below.refl _ w3) nq)
            have hsz : wb.heap.size ≤ (w3.drewN nq).heap.size := hsz
            generalize w3.drewN nq = w5 at *
            obtain ⟨c0, r0, r1, r2, b0, b1, b2⟩ := HC.out _ HB.out
            have HG := Lib.hid hG
            clear hG
            go_wp2
            go_roundw
            case rel => exact ⟨i + 1, _, true, O, by go_num, rfl, rfl, by omega, by rw [HM.out], by simp; omega, HG.out, HB.out⟩
            case measure => simp [intOf]; omega
        · cases hb : bytesBefore x.1 k with
          | true =>
            as_aux_lemma =>
            obtain ⟨c0, r0, r1, r2, b0, b1, b2⟩ := HC.out _ HB.out
            simp only [if_true, Bool.false_eq_true, if_false] at hO
            simp only [hb, Go.WideAt.bytes_irrefl, Bool.not_true, Bool.not_false, Bool.and_true, Bool.and_false, Bool.true_and, Bool.false_and, Bool.or_true, Bool.or_false, Bool.true_or, Bool.false_or, if_true, if_false, Bool.false_eq_true, List.nil_append, hne, ne_eq, not_true_eq_false, not_false_eq_true] at hM
            have s1 : Op.bytesLess (bs x.1).toList (bs k).toList = true := by rw [hlb, hb]
            have s2 : (!Op.bytesLess (bs x.1).toList (bs k).toList) = false := by rw [s1]; rfl
            have s3 : ((bs x.1).toList == (bs k).toList) = false := by rw [beq_eq_false_iff_ne, bs_toList, bs_toList]; exact hne
            have s4 : ((bs x.1).toList != (bs k).toList) = true := by rw [bne, s3]; rfl
            have HM := Lib.hid hM
            clear hM hb hne hlb hnb
            go_wp2_with (fail)
            go_quiet (fail)
            have HB := Lib.hid (below_drewN HB.out nq)
            have hG := hG.below (below_drewN (Below.refl _ wr) nq)
            have hsz : wb.heap.size ≤ (wr.drewN nq).heap.size := hsz
            generalize wr.drewN nq = w3 at *
            obtain ⟨c0, r0, r1, r2, b0, b1, b2⟩ := HC.out _ HB.out
            go_wp2_with (fail)
            go_quiet (fail)
            have HB := Lib.hid (below_drewN HB.out nq)
            have hG := hG.below (below_drewN (Below.refl _ w3) nq)
            have hsz : wb.heap.size ≤ (w3.drewN nq).heap.size := hsz
            generalize w3.drewN nq = w5 at *
            obtain ⟨c0, r0, r1, r2, b0, b1, b2⟩ := HC.out _ HB.out
            go_wp2_with (at_builtin; refine wpList_append_grow rfl _ _ _ rfl Tryz.underlying52 _ _ infoRf rfl (by decide) rfl hG hsz x _ rfl rfl (rf_one x) rfl (by unfold maxLen; omega) (by omega) ?_; intro v' w2 hG2 hg2; obtain ⟨a2, c2, rfl⟩ := hG2.slice; have hGa := hG.below (alloc_below w5 (.cells #[.string (bs x.1), .string (bs x.2.d), .int .i64 x.2.s] RfT)); have HB2 := Lib.hid (hGa.since hg2 (HB.out.alloc hsz (.cells #[.string (bs x.1), .string (bs x.2.d), .int .i64 x.2.s] RfT)) (Nat.le_refl _)); have HG2 := Lib.hid hG2; clear hG2 hg2 hG hGa)
            go_roundw
            case rel => exact ⟨i + 1, _, true, O ++ [x], by go_num, rfl, rfl, by omega, by rw [HM.out]; simp, by simp; omega, (by have := HG2.out; rw [List.length_append] at this; exact this), HB2.out⟩
            case measure => simp [intOf]; omega
          | false =>
            as_aux_lemma =>
            obtain ⟨c0, r0, r1, r2, b0, b1, b2⟩ := HC.out _ HB.out
            simp only [if_true, Bool.false_eq_true, if_false] at hO
            simp only [hb, Go.WideAt.bytes_irrefl, Bool.not_true, Bool.not_false, Bool.and_true, Bool.and_false, Bool.true_and, Bool.false_and, Bool.or_true, Bool.or_false, Bool.true_or, Bool.false_or, if_true, if_false, Bool.false_eq_true, List.nil_append, hne, ne_eq, not_true_eq_false, not_false_eq_true] at hM
            have s1 : Op.bytesLess (bs x.1).toList (bs k).toList = false := by rw [hlb, hb]
            have s2 : (!Op.bytesLess (bs x.1).toList (bs k).toList) = true := by rw [s1]; rfl
            have s3 : ((bs x.1).toList == (bs k).toList) = false := by rw [beq_eq_false_iff_ne, bs_toList, bs_toList]; exact hne
            have s4 : ((bs x.1).toList != (bs k).toList) = true := by rw [bne, s3]; rfl
            have HM := Lib.hid hM
            clear hM hb hne hlb hnb
            go_wp2_with (fail)
            go_quiet (fail)
            have HB := Lib.hid (below_drewN HB.out nq)
            have hG := hG.below (below_drewN (Below.refl _ wr) nq)
            have hsz : wb.heap.size ≤ (wr.drewN nq).heap.size := hsz
            generalize wr.drewN nq = w3 at *
            obtain ⟨c0, r0, r1, r2, b0, b1, b2⟩ := HC.out _ HB.out
            go_wp2_with (fail)
            go_quiet (fail)
            have HB := Lib.hid (below_drewN HB.out nq)
            have hG := hG.below (below_drewN (Below.refl _ w3) nq)
            have hsz : wb.heap.size ≤ (w3.drewN nq).heap.size := hsz
            generalize w3.drewN nq = w5 at *
            obtain ⟨c0, r0, r1, r2, b0, b1, b2⟩ := HC.out _ HB.out
            go_wp2_with (at_builtin; refine wpList_append_grow rfl _ _ _ rfl Tryz.underlying52 _ _ infoRf rfl (by decide) rfl hG hsz x _ rfl rfl (rf_one x) rfl (by unfold maxLen; omega) (by omega) ?_; intro v' w2 hG2 hg2; obtain ⟨a2, c2, rfl⟩ := hG2.slice; have hGa := hG.below (alloc_below w5 (.cells #[.string (bs x.1), .string (bs x.2.d), .int .i64 x.2.s] RfT)); have HB2 := Lib.hid (hGa.since hg2 (HB.out.alloc hsz (.cells #[.string (bs x.1), .string (bs x.2.d), .int .i64 x.2.s] RfT)) (Nat.le_refl _)); have HG2 := Lib.hid hG2; clear hG2 hg2 hG hGa)
            go_roundw
            case rel => exact ⟨i + 1, _, true, O ++ [x], by go_num, rfl, rfl, by omega, by rw [HM.out]; simp, by simp; omega, (by have := HG2.out; rw [List.length_append] at this; exact this), HB2.out⟩
            case measure => simp [intOf]; omega
      | false =>
        by_cases hne : x.1 = k
        · as_aux_lemma =>
          cases hb : bytesBefore x.1 k with
          | true => exact absurd hne (hnb hb)
          | false =>
            obtain ⟨c0, r0, r1, r2, b0, b1, b2⟩ := HC.out _ HB.out
            simp only [if_true, Bool.false_eq_true, if_false] at hO
            simp only [hb, Go.WideAt.bytes_irrefl, Bool.not_true, Bool.not_false, Bool.and_true, Bool.and_false, Bool.true_and, Bool.false_and, Bool.or_true, Bool.or_false, Bool.true_or, Bool.false_or, if_true, if_false, Bool.false_eq_true, List.nil_append, hne, ne_eq, not_true_eq_false, not_false_eq_true] at hM
            have s1 : Op.bytesLess (bs x.1).toList (bs k).toList = false := by rw [hlb, hb]
            have s2 : (!Op.bytesLess (bs x.1).toList (bs k).toList) = true := by rw [s1]; rfl
            have s3 : ((bs x.1).toList == (bs k).toList) = true := by rw [hne]; exact beq_self_eq_true _
            have s4 : ((bs x.1).toList != (bs k).toList) = false := by rw [bne, s3]; rfl
            have HM := Lib.hid hM
            clear hM hb hne hlb hnb
            go_wp2_with (fail)
            go_quiet (fail)
            have HB := Lib.hid (below_drewN HB.out nq)
            have hG := hG.below (below_drewN (Below.refl _ wr) nq)
            have hsz : wb.heap.size ≤ (wr.drewN nq).heap.size := hsz
            generalize wr.drewN nq = w3 at *
            obtain ⟨c0, r0, r1, r2, b0, b1, b2⟩ := HC.out _ HB.out
            go_wp2_with (at_builtin; refine wpList_append_grow rfl _ _ _ rfl Tryz.underlying52 _ _ infoRf rfl (by decide) rfl hG hsz (k, f) _ rfl rfl (rf_one (k, f)) rfl (by unfold maxLen; omega) (by omega) ?_; intro v' w2 hG2 hg2; obtain ⟨a2, c2, rfl⟩ := hG2.slice; have hGa := hG.below (alloc_below w3 (.cells #[.string (bs k), .string (bs f.d), .int .i64 f.s] RfT)); have HB2 := Lib.hid (hGa.since hg2 (HB.out.alloc hsz (.cells #[.string (bs k), .string (bs f.d), .int .i64 f.s] RfT)) (Nat.le_refl _)); have HG2 := Lib.hid hG2; clear hG2 hg2 hG hGa)
            have HB := HB2
            have hsz := HB.out.size
            have hG := HG2.out
            have HG2l : (O ++ [(k, f)]).length = O.length + 1 := by simp
            clear HB2 HG2
            obtain ⟨c0, r0, r1, r2, b0, b1, b2⟩ := HC.out _ HB.out
            rw [HG2l] at hG
            go_wp2_with (fail)
            go_quiet (fail)
            have HB := Lib.hid (below_drewN HB.out nq)
            have hG := hG.below (below_drewN (Below.refl _ w2) nq)
            have hsz : wb.heap.size ≤ (w2.drewN nq).heap.size := hsz
            generalize w2.drewN nq = w5 at *
            obtain ⟨c0, r0, r1, r2, b0, b1, b2⟩ := HC.out _ HB.out
            have HG := Lib.hid hG
            clear hG
            go_wp2
            go_roundw
            case rel => exact ⟨i + 1, _, true, (O ++ [(k, f)]), by go_num, rfl, rfl, by omega, by rw [HM.out]; simp, by simp; omega, HG.out, HB.out⟩
            case measure => simp [intOf]; omega
        · cases hb : bytesBefore x.1 k with
          | true =>
            as_aux_lemma =>
            obtain ⟨c0, r0, r1, r2, b0, b1, b2⟩ := HC.out _ HB.out
            simp only [if_true, Bool.false_eq_true, if_false] at hO
            simp only [hb, Go.WideAt.bytes_irrefl, Bool.not_true, Bool.not_false, Bool.and_true, Bool.and_false, Bool.true_and, Bool.false_and, Bool.or_true, Bool.or_false, Bool.true_or, Bool.false_or, if_true, if_false, Bool.false_eq_true, List.nil_append, hne, ne_eq, not_true_eq_false, not_false_eq_true] at hM
            have s1 : Op.bytesLess (bs x.1).toList (bs k).toList = true := by rw [hlb, hb]
            have s2 : (!Op.bytesLess (bs x.1).toList (bs k).toList) = false := by rw [s1]; rfl
            have s3 : ((bs x.1).toList == (bs k).toList) = false := by rw [beq_eq_false_iff_ne, bs_toList, bs_toList]; exact hne
            have s4 : ((bs x.1).toList != (bs k).toList) = true := by rw [bne, s3]; rfl
            have HM := Lib.hid hM
            clear hM hb hne hlb hnb
            go_wp2_with (fail)
            go_quiet (fail)
            have HB := Lib.hid (below_drewN HB.out nq)
            have hG := hG.below (below_drewN (Below.refl _ wr) nq)
            have hsz : wb.heap.size ≤ (wr.drewN nq).heap.size := hsz
            generalize wr.drewN nq = w3 at *
            obtain ⟨c0, r0, r1, r2, b0, b1, b2⟩ := HC.out _ HB.out
            go_wp2_with (fail)
            go_quiet (fail)
            have HB := Lib.hid (below_drewN HB.out nq)
            have hG := hG.below (below_drewN (Below.refl _ w3) nq)
            have hsz : wb.heap.size ≤ (w3.drewN nq).heap.size := hsz
            generalize w3.drewN nq = w5 at *
            obtain ⟨c0, r0, r1, r2, b0, b1, b2⟩ := HC.out _ HB.out
            go_wp2_with (at_builtin; refine wpList_append_grow rfl _ _ _ rfl Tryz.underlying52 _ _ infoRf rfl (by decide) rfl hG hsz x _ rfl rfl (rf_one x) rfl (by unfold maxLen; omega) (by omega) ?_; intro v' w2 hG2 hg2; obtain ⟨a2, c2, rfl⟩ := hG2.slice; have hGa := hG.below (alloc_below w5 (.cells #[.string (bs x.1), .string (bs x.2.d), .int .i64 x.2.s] RfT)); have HB2 := Lib.hid (hGa.since hg2 (HB.out.alloc hsz (.cells #[.string (bs x.1), .string (bs x.2.d), .int .i64 x.2.s] RfT)) (Nat.le_refl _)); have HG2 := Lib.hid hG2; clear hG2 hg2 hG hGa)
            go_roundw
            case rel => exact ⟨i + 1, _, false, O ++ [x], by go_num, rfl, rfl, by omega, by rw [HM.out]; simp, by simp; omega, (by have := HG2.out; rw [List.length_append] at this; exact this), HB2.out⟩
            case measure => simp [intOf]; omega
          | false =>
            as_aux_lemma =>
            obtain ⟨c0, r0, r1, r2, b0, b1, b2⟩ := HC.out _ HB.out
            simp only [if_true, Bool.false_eq_true, if_false] at hO
            simp only [hb, Go.WideAt.bytes_irrefl, Bool.not_true, Bool.not_false, Bool.and_true, Bool.and_false, Bool.true_and, Bool.false_and, Bool.or_true, Bool.or_false, Bool.true_or, Bool.false_or, if_true, if_false, Bool.false_eq_true, List.nil_append, hne, ne_eq, not_true_eq_false, not_false_eq_true] at hM
            have s1 : Op.bytesLess (bs x.1).toList (bs k).toList = false := by rw [hlb, hb]
            have s2 : (!Op.bytesLess (bs x.1).toList (bs k).toList) = true := by rw [s1]; rfl
            have s3 : ((bs x.1).toList == (bs k).toList) = false := by rw [beq_eq_false_iff_ne, bs_toList, bs_toList]; exact hne
            have s4 : ((bs x.1).toList != (bs k).toList) = true := by rw [bne, s3]; rfl
            have HM := Lib.hid hM
            clear hM hb hne hlb hnb
            go_wp2_with (fail)
            go_quiet (fail)
            have HB := Lib.hid (below_drewN HB.out nq)
            have hG := hG.below (below_drewN (Below.refl _ wr) nq)
            have hsz : wb.heap.size ≤ (wr.drewN nq).heap.size := hsz
            generalize wr.drewN nq = w3 at *
            obtain ⟨c0, r0, r1, r2, b0, b1, b2⟩ := HC.out _ HB.out
            go_wp2_with (at_builtin; refine wpList_append_grow rfl _ _ _ rfl Tryz.underlying52 _ _ infoRf rfl (by decide) rfl hG hsz (k, f) _ rfl rfl (rf_one (k, f)) rfl (by unfold maxLen; omega) (by omega) ?_; intro v' w2 hG2 hg2; obtain ⟨a2, c2, rfl⟩ := hG2.slice; have hGa := hG.below (alloc_below w3 (.cells #[.string (bs k), .string (bs f.d), .int .i64 f.s] RfT)); have HB2 := Lib.hid (hGa.since hg2 (HB.out.alloc hsz (.cells #[.string (bs k), .string (bs f.d), .int .i64 f.s] RfT)) (Nat.le_refl _)); have HG2 := Lib.hid hG2; clear hG2 hg2 hG hGa)
            have HB := HB2
            have hsz := HB.out.size
            have hG := HG2.out
            have HG2l : (O ++ [(k, f)]).length = O.length + 1 := by simp
            clear HB2 HG2
            obtain ⟨c0, r0, r1, r2, b0, b1, b2⟩ := HC.out _ HB.out
            rw [HG2l] at hG
            go_wp2_with (fail)
            go_quiet (fail)
            have HB := Lib.hid (below_drewN HB.out nq)
            have hG := hG.below (below_drewN (Below.refl _ w2) nq)
            have hsz : wb.heap.size ≤ (w2.drewN nq).heap.size := hsz
            generalize w2.drewN nq = w5 at *
            obtain ⟨c0, r0, r1, r2, b0, b1, b2⟩ := HC.out _ HB.out
            go_wp2_with (at_builtin; refine wpList_append_grow rfl _ _ _ rfl Tryz.underlying52 _ _ infoRf rfl (by decide) rfl (L := O ++ [(k, f)]) hG hsz x _ rfl rfl (rf_one x) rfl (by rw [HG2l]; unfold maxLen; omega) (by rw [HG2l]; omega) ?_; intro v' w2 hG2 hg2; obtain ⟨a2, c2, rfl⟩ := hG2.slice; have hGa := hG.below (alloc_below w5 (.cells #[.string (bs x.1), .string (bs x.2.d), .int .i64 x.2.s] RfT)); have HB2 := Lib.hid (hGa.since hg2 (HB.out.alloc hsz (.cells #[.string (bs x.1), .string (bs x.2.d), .int .i64 x.2.s] RfT)) (Nat.le_refl _)); have HG2 := Lib.hid hG2; clear hG2 hg2 hG hGa)
            go_roundw
            case rel => exact ⟨i + 1, _, true, (O ++ [(k, f)]) ++ [x], by go_num, rfl, rfl, by omega, by rw [HM.out]; simp, by simp; omega, (by have := HG2.out; rw [List.length_append, HG2l] at this; exact this), HB2.out⟩
            case measure => simp [intOf]; omega
    · have q0 : decide (i < d.m.length) = false := decide_eq_false hlt
      rw [List.drop_eq_nil_of_le (by omega)] at hM
      have H' := Lib.hid (HW.out _ HB.out)
      have hbx := HX.out _ HB.out
      have b0 := hbx.cell (i := 0) rfl
      have b1 := hbx.cell (i := 1) rfl
      have b2 := hbx.cell (i := 2) rfl
      have fg := H'.out.blk.frozen 0
      clear hbx HX HP
      cases q with
      | true =>
        as_aux_lemma =>
        simp only [if_true, Bool.false_eq_true, if_false] at hO
        have hM : putM d.m k f = O := by rw [hM]; simp [putRest]
        obtain ⟨a2, c2, rfl⟩ := hG.slice
        have HD := Lib.hid (H'.out.stored hG (by omega) (by omega))
        have HA := Lib.hid (just_set (g := g) (Hal.out.trans (HB.out.mono (by omega))) 0 (.slice a2 O.length c2))
        have HM := Lib.hid hM
        clear hM hG HW H'
        go_wp2
        go_end0
        rw [HM.out]
        exact ⟨rfl, HD.out, HA.out⟩
      | false =>
        as_aux_lemma =>
        simp only [if_true, Bool.false_eq_true, if_false] at hO
        have hM : putM d.m k f = O ++ [(k, f)] := by rw [hM]; simp [putRest]
        have HM := Lib.hid hM
        clear hM
        go_wp2_with (at_builtin; refine wpList_append_grow rfl _ _ _ rfl Tryz.underlying52 _ _ infoRf rfl (by decide) rfl hG hsz (k, f) _ rfl rfl (rf_one (k, f)) rfl (by unfold maxLen; omega) (by omega) ?_; intro v' w2 hG2 hg2; obtain ⟨a2, c2, rfl⟩ := hG2.slice; have hGa := hG.below (alloc_below wr (.cells #[.string (bs k), .string (bs f.d), .int .i64 f.s] RfT)); have HB2 := Lib.hid (hGa.since hg2 (HB.out.alloc hsz (.cells #[.string (bs k), .string (bs f.d), .int .i64 f.s] RfT)) (Nat.le_refl _)); have HG2 := Lib.hid hG2; clear hG2 hg2 hG hGa; have H2 := Lib.hid (HW.out _ HB2.out); have fg := H2.out.blk.frozen 0; have c0 := H2.out.blk.cell (i := 0) rfl)
        have HD := Lib.hid (H2.out.stored HG2.out (by omega) (by omega))
        have HA := Lib.hid (just_set (g := g) (Hal.out.trans (HB2.out.mono (by omega))) 0 (.slice a2 (O ++ [(k, f)]).length c2))
        have hl : (O ++ [(k, f)]).length = O.length + 1 := by simp
        rw [hl] at HD HA
        clear HW H' H2 HG2 hl
        go_end0
        rw [HM.out]
        exact ⟨rfl, HD.out, HA.out⟩
end
end Go.Proofs.YtbaffabemomgjaaGreatDoor
