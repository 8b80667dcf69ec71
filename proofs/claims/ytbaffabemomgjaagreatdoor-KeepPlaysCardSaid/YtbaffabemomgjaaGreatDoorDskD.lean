/- The walk of a disk's Append. Conditions: as each theorem says. -/
import Derived.Test.YtbaffabemomgjaaGreatDoorDskC
import Derived.IntWalk
namespace Go.Proofs.YtbaffabemomgjaaGreatDoor
open Go.RowKit

theorem bs_isEmpty (k : Bys) : (bs k).toList.isEmpty = decide (k = []) := by rw [bs_toList]; cases k <;> simp
section
variable {g b : Nat} {d : Dk} {w : World}
/-- What a call of the disk leaves. -/
def DkDone (g b : Nat) (d : Dk) (r : Int) (w : World) (e : Ending) (w' : World) : Prop := e = .returned (.int .i64 r) ∧ DkAt g b d w' ∧ Apart (DkF g b) w w'
set_option maxRecDepth 100000 in
theorem append_nil (k x : Bys) (w : World) : Calls Tryz.prog 17 #[.pointer none, strV k, strV x] w fun e w' => e = .returned (.int .i64 2) ∧ w = w' := by
  unfold strV
  go_enter Tryz.func17, Tryz.ntmps17
  go_wp2_with (go_at_call 38; refine (lives_nil _).mono ?_; rintro e w' ⟨rfl, rfl⟩)
  go_ret
  exact ⟨rfl, rfl⟩
set_option maxRecDepth 100000 in
set_option maxHeartbeats 800000 in
theorem append_any (h : DkAt g b d w) (hf : d.fit) (hn : d.m.length < 1000000) (k x : Bys) (hk : k.length ≤ maxLen) (hx : x.length ≤ maxLen) : Calls Tryz.prog 17 #[ptrV g, strV k, strV x] w (DkDone g b (appendD d k x).1 (appendD d k x).2 w) := by
  unfold maxLen at hx
  have HL := Lib.hid (lives_any h.head)
  unfold livesD at HL
  have HH := Lib.hid h
  have HFit := Lib.hid hf
  have hre := bs_isEmpty k
  have hlo := hf.lo
  have hhi := hf.hi
  have hu := hf.used
  clear h hf
  unfold ptrV strV at *
  unfold appendD
  by_cases hd : d.dead = true
  · as_aux_lemma =>
    rw [if_pos hd] at HL
    rw [if_pos hd]
    clear hd
    go_enter Tryz.func17, Tryz.ntmps17
    go_wp2_with (go_at_call 38; refine HL.out.mono ?_; rintro e w' ⟨rfl, rfl⟩)
    go_ret
    exact ⟨rfl, HH.out, Apart.refl _ _⟩
  · rw [if_neg hd] at HL
    rw [if_neg hd]
    clear hd
    by_cases hk0 : k = []
    · as_aux_lemma =>
      rw [decide_eq_true hk0] at hre
      rw [if_pos hk0]
      clear hk0
      go_enter Tryz.func17, Tryz.ntmps17
      go_wp2_with (go_at_call 38; refine HL.out.mono ?_; rintro e w' ⟨rfl, rfl⟩)
      go_ret
      exact ⟨rfl, HH.out, Apart.refl _ _⟩
    · rw [decide_eq_false hk0] at hre
      rw [if_neg hk0]
      have c1 := HH.out.head.cell (i := 1) (v := .int .i64 d.limit) rfl
      have HA := Lib.hid (fun W (hW : Grew w W) => all_any (HH.out.grew hW) HFit.out)
      have hw1 : IntKind.i64.wrap (d.limit - (total d.m : Int)) = d.limit - (total d.m : Int) := IntWalk.i64_in _ (by omega)
      have hbx : (bs x).size = x.length := bs_size x
      unfold ptrV at HA
      clear hk0
      by_cases hfull : d.limit - total d.m < x.length
      · as_aux_lemma =>
        rw [if_pos hfull]
        have d1 : decide (d.limit - (total d.m : Int) < (x.length : Int)) = true := decide_eq_true hfull
        clear hfull
        go_enter Tryz.func17, Tryz.ntmps17
        go_wp2_with (go_at_call 38; refine HL.out.mono ?_; rintro e w' ⟨rfl, rfl⟩)
        have hex := Grew.all w
        refine wp_region_grew (by kernel_rfl) (by kernel_rfl) ?_
        repeat (first | go_big_quiet_skip | (go_big_quiet_want; first | (refine quiet_load_cell 3 _ rfl ⟨g, 1, none⟩ rfl _ _ Tryz.underlying3 rfl (fun W hW => Grew.cell hW c1) ?_; simp only [Act.put, List.setIfInBounds_toArray, List.set_cons_succ, List.set_cons_zero]; go_big_quiet_on) | (go_big_quiet_op; first | go_big_quiet_on | (apply Exists.intro; refine ⟨fun W hW => ?_, ?_⟩; (first | exact rfl | (go_at_call 41; with_reducible exact Calls.grew hW (HA.out _ hW))); go_big_quiet_on))))
        refine wpQuiet_nil ?_
        intro w2 hw2
        have HD := Lib.hid (HH.out.grew hw2)
        have HAp := Lib.hid (Apart.of_below (F := DkF g b) hw2)
        clear hex hw2
        go_wp2
        go_ret
        exact ⟨rfl, HD.out, HAp.out⟩
      · as_aux_lemma =>
        rw [if_neg hfull]
        have d1 : decide (d.limit - (total d.m : Int) < (x.length : Int)) = false := decide_eq_false hfull
        have Hfit := Lib.hid (append_fit0 HFit.out k x hfull)
        have hle : (getF d.m k).d.length ≤ total d.m := by rw [getF_len]; exact size_le_total HFit.out.sorted k
        have hxl : x.length ≤ 1073741824 := by omega
        have Hpl := Lib.hid (put_length_le d.m k ⟨(getF d.m k).d ++ x, (getF d.m k).s⟩)
        clear hfull
        go_enter Tryz.func17, Tryz.ntmps17
        go_wp2_with (go_at_call 38; refine HL.out.mono ?_; rintro e w' ⟨rfl, rfl⟩)
        have hex := Grew.all w
        refine wp_region_grew (by kernel_rfl) (by kernel_rfl) ?_
        repeat (first | go_big_quiet_skip | (go_big_quiet_want; first | (refine quiet_load_cell 3 _ rfl ⟨g, 1, none⟩ rfl _ _ Tryz.underlying3 rfl (fun W hW => Grew.cell hW c1) ?_; simp only [Act.put, List.setIfInBounds_toArray, List.set_cons_succ, List.set_cons_zero]; go_big_quiet_on) | (go_big_quiet_op; first | go_big_quiet_on | (apply Exists.intro; refine ⟨fun W hW => ?_, ?_⟩; (first | exact rfl | (go_at_call 41; with_reducible exact Calls.grew hW (HA.out _ hW))); go_big_quiet_on))))
        refine wpQuiet_nil ?_
        intro w2 hw2
        have HD := Lib.hid (HH.out.grew hw2)
        have HAp := Lib.hid (Apart.of_below (F := DkF g b) hw2)
        have c0 := HD.out.head.cell (i := 0) (v := .map (some b)) rfl
        have hlk := HD.out.files.look k hk
        unfold strV filV at hlk
        have hca : (bs (getF d.m k).d).size + (bs x).size ≤ 9223372036854775807 := by rw [bs_size, bs_size]; omega
        have hcb : bs (getF d.m k).d ++ bs x = bs ((getF d.m k).d ++ x) := bs_append _ _
        clear hex hw2 c1 hw1 HA HL HH
        go_upto_region 10 with (fail)
        have hB5 := alloc_below w2 (.cells #[.string (bs ((getF d.m k).d ++ x)), .int .i64 (getF d.m k).s] FlT)
        have hF5 := BlkAt.alloc_new w2 (filCells ⟨(getF d.m k).d ++ x, (getF d.m k).s⟩) FlT
        have hD5 := HD.out.grew hB5
        have hA5 := HAp.out.trans (Apart.of_below (F := DkF g b) hB5) (fun i hi => .inl hi)
        unfold filCells at hF5
        simp only at hF5
        clear hlk c0 hB5
        generalize w2.alloc (.cells #[.string (bs ((getF d.m k).d ++ x)), .int .i64 (getF d.m k).s] FlT) = w5 at *
        have c0 := hD5.head.cell (i := 0) (v := .map (some b)) rfl
        have f0 := hF5.cell (i := 0) rfl
        have f1 := hF5.cell (i := 1) rfl
        obtain ⟨w6, hup, hF6, hg6⟩ := hD5.files.drew.store (by unfold maxLen; omega) k hk ⟨(getF d.m k).d ++ x, (getF d.m k).s⟩
        have HD6 := Lib.hid (hD5.drew.map' hF6 hg6)
        have HA6 := Lib.hid ((hA5.drew).trans (Apart.of_grown (F := DkF g b) hg6 (fun i hi => .inl (.inr (Option.some.inj hi).symm))) (fun i hi => .inl hi))
        unfold strV filV at hup
        simp only at hup
        clear hD5 hA5 hF5 hF6 hg6
        go_region
        have HAct := Lib.hid (act_any HD6.out Hfit.out)
        unfold ptrV at HAct
        clear hup c0 f0 f1
        go_wp2_with (go_at_call 42; refine HAct.out.mono ?_; rintro e w7 ⟨rfl, hD7, hg7⟩; have HD7 := Lib.hid hD7; have HA7 := Lib.hid (HA6.out.trans (Apart.of_grown (F := DkF g b) hg7 (fun i hi => .inl (.inl (Option.some.inj hi).symm))) (fun i hi => .inl hi)); clear hD7 hg7)
        go_ret
        exact ⟨rfl, HD7.out, HA7.out⟩
end
end Go.Proofs.YtbaffabemomgjaaGreatDoor
