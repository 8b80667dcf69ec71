/- The reference's disk: the walk of Append. Conditions: as the theorem says. -/
import Derived.Test.YtbaffabemomgjaaGreatDoorRfF
namespace Go.Proofs.YtbaffabemomgjaaGreatDoor
open Go.RowKit

section
variable {base g : Nat} {d : Dk} {w : World}
set_option maxRecDepth 100000 in
set_option maxHeartbeats 3200000 in
theorem rappend_any (h : RdAt base g d w) (hf : d.fit) (hn : d.m.length < 800000) (k x : Bys) (hx : x.length ≤ maxLen) : Calls Tryz.prog 18 #[ptrV g, strV k, strV x] w (RdDone base g (appendD d k x).1 (appendD d k x).2 w) := by
  have HU := Lib.hid (fun (W : World) (hW : Grew w W) => rused_any (h.grew hW) hf (by omega))
  have HA := Lib.hid (fun (W : World) (hW : Below w.heap.size w W) => at_any (h.grew hW) (by omega) k)
  have HP := Lib.hid (fun (W : World) (hW : Below w.heap.size w W) (f : Fil) => rput_any (h.grew hW) hf.sorted (by omega) k f)
  obtain ⟨a, cap, h⟩ := h
  have hle := h.le
  have hgl := h.blk.lt
  have HC := Lib.hid (fun (W : World) (hW : Below w.heap.size w W) => h.grew hW)
  have c1 := h.blk.cell (i := 1) rfl
  have c3 := h.blk.cell (i := 3) rfl
  have H := Lib.hid h
  clear h
  obtain ⟨R, hR⟩ : ∃ R, R = appendD d k x := ⟨_, rfl⟩
  rw [← hR]
  have hemp := bs_isEmpty k
  have hxz := bs_size x
  have hu1 := hf.used
  have hu2 := hf.hi
  have hu3 := hf.lo
  unfold maxLen at hx
  unfold RdDone ptrV strV at *
  cases hd : d.dead with
  | true =>
    as_aux_lemma =>
    have e : R = (d, 20) := by rw [hR]; unfold appendD; rw [if_pos hd]
    rw [hd] at c3
    have HE := Lib.hid e
    clear hR hd e HA HU HP hemp hxz
    go_enter Tryz.func18, Tryz.ntmps18
    go_wp2
    go_ret
    rw [HE.out]
    exact ⟨rfl, ⟨a, cap, H.out⟩, up_refl⟩
  | false =>
    rw [hd] at c3
    by_cases hk0 : k = []
    · as_aux_lemma =>
      have e : R = (d, 1) := by rw [hR]; unfold appendD; rw [if_neg (by rw [hd]; decide), if_pos hk0]
      rw [decide_eq_true hk0] at hemp
      have HE := Lib.hid e
      clear hR hd e HA HU HP hk0 hxz
      go_enter Tryz.func18, Tryz.ntmps18
      go_wp2
      go_ret
      rw [HE.out]
      exact ⟨rfl, ⟨a, cap, H.out⟩, up_refl⟩
    rw [decide_eq_false hk0] at hemp
    by_cases hl : d.limit - total d.m < x.length
    · as_aux_lemma =>
      have e : R = (d, 22) := by rw [hR]; unfold appendD; rw [if_neg (by rw [hd]; decide), if_neg hk0, if_pos hl]
      have HE := Lib.hid e
      have q1 : decide (d.limit - (total d.m : Int) < (x.length : Int)) = true := decide_eq_true hl
      have hex := Grew.all w
      clear hR hd e HA HP hk0 hl
      go_enter Tryz.func18, Tryz.ntmps18
      go_wp2_with (fail)
      refine wp_region_grew (by kernel_rfl) (by kernel_rfl) ?_
      repeat (first | go_big_quiet_skip | (go_big_quiet_want; first | (refine quiet_load_cell 3 (.tmp 19) rfl _ rfl _ _ Tryz.underlying3 rfl (fun W hW => Grew.cell hW c1) ?_; simp only [Act.put, List.setIfInBounds_toArray, List.set_cons_succ, List.set_cons_zero]; go_big_quiet_on) | (go_big_quiet_op; first | go_big_quiet_on | (apply Exists.intro; refine ⟨fun W hW => ?_, ?_⟩; (first | (go_at_call 43; with_reducible exact Calls.grew_same hW (HU.out _ hW))); go_big_quiet_on))))
      refine wpQuiet_nil ?_
      intro w2 hw2
      clear hex
      go_wp2
      go_ret
      rw [HE.out]
      exact ⟨rfl, ⟨a, cap, HC.out _ hw2⟩, up_below hw2⟩
    · have e : R = (actD { d with m := putM d.m k ⟨(getF d.m k).d ++ x, (getF d.m k).s⟩ }, livesD (actD { d with m := putM d.m k ⟨(getF d.m k).d ++ x, (getF d.m k).s⟩ })) := by
        rw [hR]; unfold appendD; rw [if_neg (by rw [hd]; decide), if_neg hk0, if_neg hl]
      have HE := Lib.hid e
      have q1 : decide (d.limit - (total d.m : Int) < (x.length : Int)) = false := decide_eq_false hl
      have hex := Grew.all w
      have hs := hf.sorted
      have HFit := Lib.hid (append_fit0 hf k x hl)
      have hgs := size_le_total hf.sorted k
      have hxl : x.length ≤ 1073741824 := by omega
      have hgl2 := getF_len (M := d.m) k
      clear hR hd e hk0 hl hf
      go_enter Tryz.func18, Tryz.ntmps18
      go_wp2_with (fail)
      refine wp_region_grew (by kernel_rfl) (by kernel_rfl) ?_
      repeat (first | go_big_quiet_skip | (go_big_quiet_want; first | (refine quiet_load_cell 3 (.tmp 19) rfl _ rfl _ _ Tryz.underlying3 rfl (fun W hW => Grew.cell hW c1) ?_; simp only [Act.put, List.setIfInBounds_toArray, List.set_cons_succ, List.set_cons_zero]; go_big_quiet_on) | (go_big_quiet_op; first | go_big_quiet_on | (apply Exists.intro; refine ⟨fun W hW => ?_, ?_⟩; (first | (go_at_call 43; with_reducible exact Calls.grew_same hW (HU.out _ hW))); go_big_quiet_on))))
      refine wpQuiet_nil ?_
      intro w2 hw2
      have HW2 := Lib.hid hw2
      clear hex hw2 HU q1
      have HW3 := Lib.hid (HW2.out.step (alloc_below w2 (.cells #[.string (bs k), .string ⟨#[]⟩, .int .i64 0] RfT)))
      have hz2 : w.heap.size ≤ w2.heap.size := Below.size HW2.out
      go_wp2_with (fail)
      refine (HA.out _ HW3.out).mono ?_
      rintro e w3 ⟨r, rfl, hr, rfl⟩
      have htl : (total d.m : Int) ≤ 1073741824 := by omega
      have hcat : ∀ a : Bys, bs a ++ bs x = bs (a ++ x) := fun a => bs_append a x
      have hc0 : (⟨#[]⟩ : ByteArray) ++ bs x = bs x := bs_append [] x
      have fin : ∀ (f : Fil) (W : World), Below w.heap.size w W → f = ⟨(getF d.m k).d ++ x, (getF d.m k).s⟩ → Calls Tryz.prog 45 #[.pointer (some ⟨g, 0, none⟩), .agg #[.string (bs k), .string (bs f.d), .int .i64 f.s]] W fun e w' => e = .returned (.tuple #[]) ∧
          RdAt base g { d with m := putM d.m k ⟨(getF d.m k).d ++ x, (getF d.m k).s⟩ } w' ∧ Apart (Up base) w w' := fun f W hW hfe => (HP.out W hW f).mono fun e w' ⟨he, h1, h2⟩ => ⟨he, by rw [← hfe]; exact h1, up_trans (up_below hW) (just_up h2 hle)⟩
      have Fin := Lib.hid fin
      have HTT := Lib.hid (fun (W : World) (hW : RdAt base g { d with m := putM d.m k ⟨(getF d.m k).d ++ x, (getF d.m k).s⟩ } W) => ract_any hW HFit.out)
      have hliv : ∀ q : Bool, livesD (actD { d with m := putM d.m k ⟨(getF d.m k).d ++ x, (getF d.m k).s⟩ }) = (if (!(actD { d with m := putM d.m k ⟨(getF d.m k).d ++ x, (getF d.m k).s⟩ }).dead) = true then 0 else 20) := fun q => by
        unfold livesD
        cases (actD { d with m := putM d.m k ⟨(getF d.m k).d ++ x, (getF d.m k).s⟩ }).dead <;> rfl
      have HLiv := Lib.hid (hliv true)
      have hgN : getM d.m k = none → getF d.m k = ⟨[], 0⟩ := getF_none
      have hgS : ∀ f, getM d.m k = some f → getF d.m k = f := fun f => getF_some
      unfold ptrV at HTT
      clear fin hliv HP HA HFit
      rcases hr with ⟨i, hi, rfl, hk⟩ | ⟨rfl, hno⟩
      · have hg := hgS _ (by rw [← hk]; exact AtIs.some hs hi)
        obtain ⟨gb, rfl, hup, r0, r1, r2⟩ := (HC.out _ HW3.out).get i hi
        have c0 := (HC.out _ HW3.out).blk.cell (i := 0) rfl
        have q2 : decide (0 ≤ (i : Int)) = true := decide_eq_true (by omega)
        have i1 : (i : Int) < (d.m.length : Int) := by omega
        rw [hk] at r0
        have hl1 : (bs d.m[i].2.d).size ≤ 1073741824 := by rw [bs_size]; rw [hg] at hgl2; omega
        have HG := Lib.hid hg
        clear hg hgN hgS hk hgl2 hgs
        generalize d.m[i] = y at *
        go_wp2_with (fail)
        refine (Fin.out ⟨y.2.d ++ x, y.2.s⟩ _ (HW2.out.step (alloc_below w2 _)) (by rw [HG.out])).mono ?_
        rintro e w4 ⟨rfl, hD4, hA4⟩
        have HA4 := Lib.hid hA4
        have HD4 := Lib.hid hD4
        clear hD4 hA4
        go_wp2_with (fail)
        refine (HTT.out _ HD4.out).mono ?_
        rintro e w5 ⟨rfl, hD5, hg5⟩
        have HD5 := Lib.hid hD5
        have HU5 := Lib.hid (up_trans HA4.out (up_grown (base := base) hg5 (fun q hq => by have := Option.some.inj hq; omega)))
        clear hD5 hg5 HTT HD4 HA4
        generalize actD { d with m := putM d.m k ⟨(getF d.m k).d ++ x, (getF d.m k).s⟩ } = q at *
        have hlv := HLiv.out
        cases hqd : q.dead
        all_goals
          rw [hqd] at hlv
          simp only [Bool.not_true, Bool.not_false, if_true, if_false, Bool.false_eq_true] at hlv ⊢
          have HLv := Lib.hid hlv
          clear hlv hqd HLiv
          go_wp2_with (go_at_call 46; refine (answer_any _ _).mono ?_; rintro e w6 ⟨rfl, rfl⟩)
          go_ret
          rw [HE.out, HLv.out]
          exact ⟨rfl, HD5.out, HU5.out⟩
      · have hg := hgN (get_none.2 hno)
        have HG := Lib.hid hg
        clear hg hgN hgS hno hgl2 hgs
        go_wp2_with (fail)
        refine (Fin.out ⟨x, 0⟩ _ (HW2.out.step (alloc_below w2 _)) (by rw [HG.out]; rfl)).mono ?_
        rintro e w4 ⟨rfl, hD4, hA4⟩
        have HA4 := Lib.hid hA4
        have HD4 := Lib.hid hD4
        clear hD4 hA4
        go_wp2_with (fail)
        refine (HTT.out _ HD4.out).mono ?_
        rintro e w5 ⟨rfl, hD5, hg5⟩
        have HD5 := Lib.hid hD5
        have HU5 := Lib.hid (up_trans HA4.out (up_grown (base := base) hg5 (fun q hq => by have := Option.some.inj hq; omega)))
        clear hD5 hg5 HTT HD4 HA4
        generalize actD { d with m := putM d.m k ⟨(getF d.m k).d ++ x, (getF d.m k).s⟩ } = q at *
        have hlv := HLiv.out
        cases hqd : q.dead
        all_goals
          rw [hqd] at hlv
          simp only [Bool.not_true, Bool.not_false, if_true, if_false, Bool.false_eq_true] at hlv ⊢
          have HLv := Lib.hid hlv
          clear hlv hqd HLiv
          go_wp2_with (go_at_call 46; refine (answer_any _ _).mono ?_; rintro e w6 ⟨rfl, rfl⟩)
          go_ret
          rw [HE.out, HLv.out]
          exact ⟨rfl, HD5.out, HU5.out⟩
end
end Go.Proofs.YtbaffabemomgjaaGreatDoor
