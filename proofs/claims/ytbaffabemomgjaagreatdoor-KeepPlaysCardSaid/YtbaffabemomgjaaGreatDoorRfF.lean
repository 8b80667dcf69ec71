/- The reference's disk: the walks of Append, Sync, Rename. Conditions: as each theorem says. -/
import Derived.Test.YtbaffabemomgjaaGreatDoorRfE
namespace Go.Proofs.YtbaffabemomgjaaGreatDoor
open Go.RowKit

section
variable {base g : Nat} {d : Dk} {w : World}
set_option maxRecDepth 100000 in
set_option maxHeartbeats 1600000 in
theorem rsync_any (h : RdAt base g d w) (hf : d.fit) (hn : d.m.length < 900000) (k : Bys) : Calls Tryz.prog 31 #[ptrV g, strV k] w (RdDone base g (syncD d k).1 (syncD d k).2 w) := by
  have HA := Lib.hid (at_any h (by omega) k)
  have HT := Lib.hid (ract_any h hf)
  obtain ⟨a, cap, h⟩ := h
  have c3 := h.blk.cell (i := 3) rfl
  have hle := h.le
  have H := Lib.hid h
  clear h
  obtain ⟨R, hR⟩ : ∃ R, R = syncD d k := ⟨_, rfl⟩
  rw [← hR]
  unfold RdDone ptrV strV at *
  cases hd : d.dead with
  | true =>
    as_aux_lemma =>
    have e : R = (d, 20) := by rw [hR]; unfold syncD thereD; rw [hd]; rfl
    rw [hd] at c3
    have HE := Lib.hid e
    clear hR hd e HA HT
    go_enter Tryz.func31, Tryz.ntmps31
    go_wp2
    go_ret
    rw [HE.out]
    exact ⟨rfl, ⟨a, cap, H.out⟩, up_refl⟩
  | false =>
    rw [hd] at c3
    have HR := Lib.hid hR
    have hdd := Lib.hid hd
    have hs := hf.sorted
    clear hR hd hf
    go_enter Tryz.func31, Tryz.ntmps31
    go_wp2_with (fail)
    refine HA.out.mono ?_
    rintro e w1 ⟨r, rfl, hr, rfl⟩
    rcases hr with ⟨i, hi, rfl, hk⟩ | ⟨rfl, hno⟩
    · have hg : getM d.m k = some d.m[i].2 := by rw [← hk]; exact AtIs.some hs hi
      have ht := there_ok hdd.out hg
      have q1 : decide ((i : Int) < 0) = false := decide_eq_false (by omega)
      cases ha : (actD d).dead with
      | true =>
        as_aux_lemma =>
        have HE : Hid (R = (actD d, 20)) := Lib.hid (by rw [HR.out]; unfold syncD; rw [if_neg (by rw [ht]; decide), if_pos ha])
        rw [ha] at HT
        clear HR hk hg ht ha
        go_wp2_with (fail)
        refine HT.out.mono ?_
        rintro e w2 ⟨rfl, hD2, hg2⟩
        have HD2 := Lib.hid hD2
        have HU := Lib.hid (up_grown (base := base) hg2 (fun q hq => by have := Option.some.inj hq; omega))
        have HAn := Lib.hid (answer_any false w2)
        simp only [Bool.not_true] at HAn ⊢
        clear hD2 hg2 HT
        go_wp2_with (go_at_call 46; refine HAn.out.mono ?_; rintro e w3 ⟨rfl, rfl⟩)
        go_ret
        rw [HE.out]
        exact ⟨rfl, HD2.out, HU.out⟩
      | false =>
        have HE : Hid (R = ({ actD d with m := d.m.set i (d.m[i].1, ⟨d.m[i].2.d, d.m[i].2.d.length⟩) }, 0)) := Lib.hid (by
          rw [HR.out, put_at hs i hi, hk]
          unfold syncD
          rw [if_neg (by rw [ht]; decide), if_neg (by rw [ha]; decide), getF_some hg])
        have hm := act_m d
        rw [ha] at HT
        clear HR hk hg ht ha
        go_wp2_with (fail)
        refine HT.out.mono ?_
        rintro e w2 ⟨rfl, hD2, hg2⟩
        have HU := Lib.hid (up_grown (base := base) hg2 (fun q hq => by have := Option.some.inj hq; omega))
        simp only [Bool.not_false]
        obtain ⟨a2, cap2, h2⟩ := hD2
        have c0 := h2.blk.cell (i := 0) rfl
        rw [hm] at c0
        have hi2 : i < (actD d).m.length := by rw [hm]; exact hi
        obtain ⟨gb, rfl, hup, r0, r1, r2⟩ := h2.get i hi2
        have ex : (actD d).m[i] = d.m[i] := by simp only [hm]
        rw [ex] at r0 r1 r2
        have hl := bs_size d.m[i].2.d
        have hfz := World.ownsRow.frozenAt h2.rows (i * 3 + 2)
        have HP := Lib.hid (h2.poke i hi2 2 (by omega) (.int .i64 (d.m[i].2.d.length : Int)) (d.m[i].1, ⟨d.m[i].2.d, d.m[i].2.d.length⟩) (by rw [ex]; rfl))
        rw [hm] at HP
        have i1 : (i : Int) < (d.m.length : Int) := by omega
        have i0 : (0 : Int) ≤ (i : Int) := by omega
        clear h2 hg2 HT ex H c3
        generalize d.m[i] = x at *
        have q2 : decide (i < d.m.length) = true := decide_eq_true hi
        go_wp2_with (fail)
        go_region
        go_wp2_with (go_at_call 46; refine (answer_any true _).mono ?_; rintro e w3 ⟨rfl, rfl⟩)
        go_ret
        rw [HE.out]
        exact ⟨rfl, ⟨_, _, HP.out.1.grew ((Below.refl _ _).drew)⟩, up_trans HU.out (up_trans (up_grown HP.out.2 (fun q hq => by have := Option.some.inj hq; omega)) (up_below ((Below.refl _ _).drew)))⟩
    · as_aux_lemma =>
      have HE : Hid (R = (d, 21)) := Lib.hid (by rw [HR.out]; unfold syncD; rw [there_no hdd.out (get_none.2 hno), if_pos (by decide)])
      clear HR hno HT
      go_wp2
      go_ret
      rw [HE.out]
      exact ⟨rfl, ⟨a, cap, H.out⟩, up_refl⟩
theorem rename_fit0 {d : Dk} (hf : d.fit) {k t : Bys} : ({ actD d with m := delM d.m k } : Dk).m.sorted := del_sorted hf.sorted k
set_option maxRecDepth 100000 in
set_option maxHeartbeats 1600000 in
theorem rrename_any (h : RdAt base g d w) (hf : d.fit) (hn : d.m.length < 800000) (k t : Bys) : Calls Tryz.prog 32 #[ptrV g, strV k, strV t] w (RdDone base g (renameD d k t).1 (renameD d k t).2 w) := by
  have HA := Lib.hid (at_any h (by omega) k)
  have HT := Lib.hid (ract_any h hf)
  have HD := Lib.hid (fun (W : World) (hW : RdAt base g (actD d) W) => rdrop_any hW (by rw [act_m]; omega) k)
  have HP := Lib.hid (fun (W : World) (hW : RdAt base g { actD d with m := delM d.m k } W) (f : Fil) => rput_any hW (del_sorted hf.sorted k) (by have := del_length_le d.m k; show (delM d.m k).length < 900000; omega) t f)
  obtain ⟨a, cap, h⟩ := h
  have c3 := h.blk.cell (i := 3) rfl
  have hle := h.le
  have H := Lib.hid h
  clear h
  obtain ⟨R, hR⟩ : ∃ R, R = renameD d k t := ⟨_, rfl⟩
  rw [← hR]
  have hemp := bs_isEmpty t
  unfold RdDone ptrV strV at *
  cases hd : d.dead with
  | true =>
    as_aux_lemma =>
    have e : R = (d, 20) := by rw [hR]; unfold renameD; rw [if_pos hd]
    rw [hd] at c3
    have HE := Lib.hid e
    clear hR hd e HA HT HD HP hemp
    go_enter Tryz.func32, Tryz.ntmps32
    go_wp2
    go_ret
    rw [HE.out]
    exact ⟨rfl, ⟨a, cap, H.out⟩, up_refl⟩
  | false =>
    rw [hd] at c3
    by_cases ht0 : t = []
    · as_aux_lemma =>
      have e : R = (d, 1) := by rw [hR]; unfold renameD; rw [if_neg (by rw [hd]; decide), if_pos ht0]
      rw [decide_eq_true ht0] at hemp
      have HE := Lib.hid e
      clear hR hd e HA HT HD HP ht0
      go_enter Tryz.func32, Tryz.ntmps32
      go_wp2
      go_ret
      rw [HE.out]
      exact ⟨rfl, ⟨a, cap, H.out⟩, up_refl⟩
    rw [decide_eq_false ht0] at hemp
    have hR : R = if thereD d k ≠ 0 then (d, thereD d k) else if (actD d).dead then (actD d, 20) else ({ actD d with m := putM (delM d.m k) t (getF d.m k) }, 0) := by
      rw [hR]; unfold renameD; rw [if_neg (by rw [hd]; decide), if_neg ht0]
    have HR := Lib.hid hR
    have hdd := Lib.hid hd
    have hs := hf.sorted
    clear hR hd hf ht0
    go_enter Tryz.func32, Tryz.ntmps32
    go_wp2_with (fail)
    refine HA.out.mono ?_
    rintro e w1 ⟨r, rfl, hr, rfl⟩
    rcases hr with ⟨i, hi, rfl, hk⟩ | ⟨rfl, hno⟩
    · have hg : getM d.m k = some d.m[i].2 := by rw [← hk]; exact AtIs.some hs hi
      have ht := there_ok hdd.out hg
      have q1 : decide ((i : Int) < 0) = false := decide_eq_false (by omega)
      cases ha : (actD d).dead with
      | true =>
        as_aux_lemma =>
        have HE : Hid (R = (actD d, 20)) := Lib.hid (by rw [HR.out, if_neg (by rw [ht]; decide), if_pos ha])
        rw [ha] at HT
        clear HR hk hg ht ha HD HP
        go_wp2_with (fail)
        refine HT.out.mono ?_
        rintro e w2 ⟨rfl, hD2, hg2⟩
        have HD2 := Lib.hid hD2
        have HU := Lib.hid (up_grown (base := base) hg2 (fun q hq => by have := Option.some.inj hq; omega))
        have HAn := Lib.hid (answer_any false w2)
        simp only [Bool.not_true] at HAn ⊢
        clear hD2 hg2 HT
        go_wp2_with (go_at_call 46; refine HAn.out.mono ?_; rintro e w3 ⟨rfl, rfl⟩)
        go_ret
        rw [HE.out]
        exact ⟨rfl, HD2.out, HU.out⟩
      | false =>
        have HE : Hid (R = ({ actD d with m := putM (delM d.m k) t d.m[i].2 }, 0)) := Lib.hid (by
          rw [HR.out, if_neg (by rw [ht]; decide), if_neg (by rw [ha]; decide), getF_some hg])
        have hm := act_m d
        rw [ha] at HT
        clear HR hk hg ht ha
        go_wp2_with (fail)
        refine HT.out.mono ?_
        rintro e w2 ⟨rfl, hD2, hg2⟩
        have HU := Lib.hid (up_grown (base := base) hg2 (fun q hq => by have := Option.some.inj hq; omega))
        simp only [Bool.not_false]
        have HD2 := Lib.hid hD2
        obtain ⟨a2, cap2, h2⟩ := hD2
        have c0 := h2.blk.cell (i := 0) rfl
        rw [hm] at c0
        have hi2 : i < (actD d).m.length := by rw [hm]; exact hi
        obtain ⟨gb, rfl, hup, r0, r1, r2⟩ := h2.get i hi2
        have ex : (actD d).m[i] = d.m[i] := by simp only [hm]
        rw [ex] at r0 r1 r2
        have i1 : (i : Int) < (d.m.length : Int) := by omega
        have i0 : (0 : Int) ≤ (i : Int) := by omega
        have hbl : g < w2.heap.size := h2.blk.lt
        clear h2 hg2 HT ex H c3
        generalize d.m[i] = x at *
        have q2 : decide (i < d.m.length) = true := decide_eq_true hi
        have hb2 := alloc_below w2 (.cells #[.string (bs x.1), .string (bs x.2.d), .int .i64 x.2.s] RfT)
        have HD3 := Lib.hid (HD2.out.grew hb2)
        have hx3 := BlkAt.alloc_new w2 [.string (bs x.1), .string (bs x.2.d), .int .i64 x.2.s] RfT
        have HU3 := Lib.hid (up_trans HU.out (up_below (base := base) hb2))
        clear hb2
        go_wp2_with (fail)
        refine (HD.out _ HD3.out).mono ?_
        rintro e w3 ⟨rfl, hD4, hA4⟩
        rw [hm] at hD4
        have hx4 : BlkAt w2.heap.size RfT [.string (bs x.1), .string (bs x.2.d), .int .i64 x.2.s] w3 := blk_away hx3 hA4 (by show ¬ w2.heap.size = g; omega)
        have y0 := hx4.cell (i := 0) rfl
        have y1 := hx4.cell (i := 1) rfl
        have y2 := hx4.cell (i := 2) rfl
        have fy := hx4.frozen 0
        have hx5 := hx4.set 0 (.string (bs t))
        have HA4 := Lib.hid (up_trans HU3.out (just_up hA4 hle))
        have hz4 : (w2.alloc (.cells #[.string (bs x.1), .string (bs x.2.d), .int .i64 x.2.s] RfT)).heap.size = w2.heap.size + 1 := by simp
        rw [hz4] at hD4
        have HD5 := Lib.hid ((hD4.set (b := w2.heap.size) (by omega) (by omega) 0 (.string (bs t))).at_ (base := base) (by omega) hle)
        have HU5 := Lib.hid (up_trans HA4.out (up_grown (base := base) (grown_set w3 w2.heap.size 0 (.string (bs t))) (fun q hq => by have := Option.some.inj hq; omega)))
        clear hD4 hA4 hx3 hx4 hx5
        go_wp2_with (fail)
        refine (HP.out _ HD5.out x.2).mono ?_
        rintro e w5 ⟨rfl, hD6, hA6⟩
        have HD6 := Lib.hid hD6
        have HU6 := Lib.hid (up_trans HU5.out (just_up hA6 hle))
        clear hD6 hA6
        go_wp2_with (go_at_call 46; refine (answer_any true _).mono ?_; rintro e w6 ⟨rfl, rfl⟩)
        go_ret
        rw [HE.out]
        exact ⟨rfl, HD6.out, HU6.out⟩
    · as_aux_lemma =>
      have HE : Hid (R = (d, 21)) := Lib.hid (by rw [HR.out, there_no hdd.out (get_none.2 hno), if_pos (by decide)])
      clear HR hno HT HD HP
      go_wp2
      go_ret
      rw [HE.out]
      exact ⟨rfl, ⟨a, cap, H.out⟩, up_refl⟩
end
end Go.Proofs.YtbaffabemomgjaaGreatDoor
