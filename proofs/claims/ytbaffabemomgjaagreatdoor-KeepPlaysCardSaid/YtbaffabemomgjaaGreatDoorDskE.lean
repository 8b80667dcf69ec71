/- The walks of a disk's Sync, Remove, Rename. Conditions: as each theorem says. -/
import Derived.Test.YtbaffabemomgjaaGreatDoorDskD
namespace Go.Proofs.YtbaffabemomgjaaGreatDoor
open Go.RowKit

section
variable {g b : Nat} {d : Dk} {w : World}
theorem there_zero {k : Bys} (h : ¬ thereD d k ≠ 0) : ¬ d.dead = true ∧ (getM d.m k).isSome = true := by
  unfold thereD at h
  by_cases h1 : d.dead = true
  · rw [if_pos h1] at h; exact absurd (by decide : (20 : Int) ≠ 0) h
  · rw [if_neg h1] at h
    by_cases h2 : (getM d.m k).isSome = true
    · exact ⟨h1, h2⟩
    · rw [if_neg h2] at h; exact absurd (by decide : (21 : Int) ≠ 0) h
theorem put_there {M : Dir} {k : Bys} (h : (getM M k).isSome = true) (f : Fil) : (putM M k f).length ≤ M.length := by
  obtain ⟨x, hx⟩ := Option.isSome_iff_exists.1 h
  exact put_length_same hx f
theorem sync_fit0 (h : d.fit) (k : Bys) : ({ actD d with m := putM d.m k ⟨(getF d.m k).d, (getF d.m k).d.length⟩ } : Dk).fit := by
  have ha := act_fit h
  refine ⟨put_sorted h.sorted _ _, ha.lo, ha.hi, ?_, put_synced h.synced k ⟨by simp, by simp⟩, ha.armed⟩
  have h1 := total_put h.sorted k ⟨(getF d.m k).d, (getF d.m k).d.length⟩
  have h2 := getF_len (M := d.m) k
  have h3 := h.used
  simp only at h1
  rw [act_limit]
  simp only
  omega
set_option maxRecDepth 100000 in
set_option maxHeartbeats 800000 in
theorem sync_nil (k : Bys) (w : World) : Calls Tryz.prog 26 #[.pointer none, strV k] w fun e w' => e = .returned (.int .i64 2) ∧ w = w' := by
  have HT := Lib.hid (fun W => there_nil k W)
  unfold strV at *
  go_enter Tryz.func26, Tryz.ntmps26
  go_wp2_with (go_at_call 48; refine (HT.out _).mono ?_; rintro e w' ⟨rfl, rfl⟩)
  go_ret
  exact ⟨rfl, rfl⟩
set_option maxRecDepth 100000 in
set_option maxHeartbeats 800000 in
theorem sync_any (h : DkAt g b d w) (hf : d.fit) (hn : d.m.length < 1000000) (k : Bys) (hk : k.length ≤ maxLen) : Calls Tryz.prog 26 #[ptrV g, strV k] w (DkDone g b (syncD d k).1 (syncD d k).2 w) := by
  have HT := Lib.hid (there_any h k hk)
  have HH := Lib.hid h
  have HFit := Lib.hid hf
  clear h hf
  unfold syncD
  by_cases h0 : thereD d k ≠ 0
  · as_aux_lemma =>
    rw [if_pos h0]
    have hc := there_cases d k
    generalize thereD d k = t at *
    have q0 : (t != 0) = true := by simpa using h0
    clear hc h0
    unfold ptrV strV at *
    go_enter Tryz.func26, Tryz.ntmps26
    go_wp2_with (go_at_call 48; refine HT.out.mono ?_; rintro e w' ⟨rfl, hb⟩)
    go_ret
    exact ⟨rfl, HH.out.grew hb, Apart.of_below hb⟩
  · rw [if_neg h0]
    have hz := there_zero h0
    have h1 : thereD d k = 0 := by omega
    rw [h1] at HT
    have HAc := Lib.hid (fun (W : World) (hW : Below w.heap.size w W) => act_any (HH.out.grew hW) HFit.out)
    unfold livesD at HAc
    clear h0 h1
    by_cases hd : (actD d).dead = true
    · as_aux_lemma =>
      rw [if_pos hd] at HAc ⊢
      unfold ptrV strV at *
      clear hd hz
      go_enter Tryz.func26, Tryz.ntmps26
      go_wp2_with (first | (go_at_call 48; refine HT.out.mono ?_; rintro e w1 ⟨rfl, hb⟩) | (go_at_call 42; refine (HAc.out _ hb).mono ?_; rintro e w2 ⟨rfl, hD, hg⟩; have HD := Lib.hid hD; have HA := Lib.hid ((Apart.of_below (F := DkF g b) hb).trans (Apart.of_grown (F := DkF g b) hg (fun i hi => .inl (.inl (Option.some.inj hi).symm))) (fun i hi => .inl hi)); clear hD hg))
      go_ret
      exact ⟨rfl, HD.out, HA.out⟩
    · as_aux_lemma =>
      rw [if_neg hd] at HAc ⊢
      have Hpl := Lib.hid (put_there hz.2)
      have hm := act_m d
      unfold ptrV strV at *
      clear hd hz
      go_enter Tryz.func26, Tryz.ntmps26
      go_wp2_with (fail)
      refine HT.out.mono ?_
      rintro e w1 ⟨rfl, hb⟩
      have HB1 := Lib.hid hb
      clear hb
      go_wp2_with (fail)
      refine (HAc.out _ HB1.out).mono ?_
      rintro e w2 ⟨rfl, hD, hg⟩
      have HA2 := Lib.hid ((Apart.of_below (F := DkF g b) HB1.out).trans (Apart.of_grown (F := DkF g b) hg (fun i hi => .inl (.inl (Option.some.inj hi).symm))) (fun i hi => .inl hi))
      have HD2 := Lib.hid hD
      have c0 := hD.head.cell (i := 0) (v := .map (some b)) rfl
      have hlk := hD.files.look k hk
      rw [hm] at hlk
      unfold strV filV at hlk
      have hbl : (bs (getF d.m k).d).size = (getF d.m k).d.length := bs_size _
      clear hD hg hm
      go_upto_region 8 with (fail)
      have hB5 := alloc_below w2 (.cells #[.string (bs (getF d.m k).d), .int .i64 ((getF d.m k).d.length : Int)] FlT)
      have hF5 := BlkAt.alloc_new w2 (filCells ⟨(getF d.m k).d, (getF d.m k).d.length⟩) FlT
      have hD5 := HD2.out.grew hB5
      have hA5 := HA2.out.trans (Apart.of_below (F := DkF g b) hB5) (fun i hi => .inl hi)
      unfold filCells at hF5
      simp only at hF5
      clear hlk c0 hB5
      generalize w2.alloc (.cells #[.string (bs (getF d.m k).d), .int .i64 ((getF d.m k).d.length : Int)] FlT) = w5 at *
      have c0 := hD5.head.cell (i := 0) (v := .map (some b)) rfl
      have f0 := hF5.cell (i := 0) rfl
      have f1 := hF5.cell (i := 1) rfl
      obtain ⟨w6, hup, hF6, hg6⟩ := hD5.files.drew.store (by rw [act_m]; unfold maxLen; omega) k hk ⟨(getF d.m k).d, (getF d.m k).d.length⟩
      rw [act_m] at hF6
      have HD6 := Lib.hid (hD5.drew.map' hF6 hg6)
      have HA6 := Lib.hid ((hA5.drew).trans (Apart.of_grown (F := DkF g b) hg6 (fun i hi => .inl (.inr (Option.some.inj hi).symm))) (fun i hi => .inl hi))
      unfold strV filV at hup
      simp only at hup
      clear hD5 hA5 hF5 hF6 hg6
      go_region
      go_wp2
      go_ret
      exact ⟨rfl, HD6.out, HA6.out⟩
set_option maxRecDepth 100000 in
set_option maxHeartbeats 800000 in
theorem remove_nil (k : Bys) (w : World) : Calls Tryz.prog 37 #[.pointer none, strV k] w fun e w' => e = .returned (.int .i64 2) ∧ w = w' := by
  have HT := Lib.hid (fun W => there_nil k W)
  unfold strV at *
  go_enter Tryz.func37, Tryz.ntmps37
  go_wp2_with (go_at_call 48; refine (HT.out _).mono ?_; rintro e w' ⟨rfl, rfl⟩)
  go_ret
  exact ⟨rfl, rfl⟩
set_option maxRecDepth 100000 in
set_option maxHeartbeats 800000 in
theorem remove_any (h : DkAt g b d w) (hf : d.fit) (k : Bys) (hk : k.length ≤ maxLen) : Calls Tryz.prog 37 #[ptrV g, strV k] w (DkDone g b (removeD d k).1 (removeD d k).2 w) := by
  have HT := Lib.hid (there_any h k hk)
  have HH := Lib.hid h
  have HFit := Lib.hid hf
  clear h hf
  unfold removeD
  by_cases h0 : thereD d k ≠ 0
  · as_aux_lemma =>
    rw [if_pos h0]
    have hc := there_cases d k
    generalize thereD d k = t at *
    have q0 : (t != 0) = true := by simpa using h0
    clear hc h0
    unfold ptrV strV at *
    go_enter Tryz.func37, Tryz.ntmps37
    go_wp2_with (go_at_call 48; refine HT.out.mono ?_; rintro e w' ⟨rfl, hb⟩)
    go_ret
    exact ⟨rfl, HH.out.grew hb, Apart.of_below hb⟩
  · rw [if_neg h0]
    have hz := there_zero h0
    have h1 : thereD d k = 0 := by omega
    rw [h1] at HT
    have HAc := Lib.hid (fun (W : World) (hW : Below w.heap.size w W) => act_any (HH.out.grew hW) HFit.out)
    unfold livesD at HAc
    clear h0 h1
    by_cases hd : (actD d).dead = true
    · as_aux_lemma =>
      rw [if_pos hd] at HAc ⊢
      unfold ptrV strV at *
      clear hd hz
      go_enter Tryz.func37, Tryz.ntmps37
      go_wp2_with (first | (go_at_call 48; refine HT.out.mono ?_; rintro e w1 ⟨rfl, hb⟩) | (go_at_call 42; refine (HAc.out _ hb).mono ?_; rintro e w2 ⟨rfl, hD, hg⟩; have HD := Lib.hid hD; have HA := Lib.hid ((Apart.of_below (F := DkF g b) hb).trans (Apart.of_grown (F := DkF g b) hg (fun i hi => .inl (.inl (Option.some.inj hi).symm))) (fun i hi => .inl hi)); clear hD hg))
      go_ret
      exact ⟨rfl, HD.out, HA.out⟩
    · as_aux_lemma =>
      rw [if_neg hd] at HAc ⊢
      have hm := act_m d
      unfold ptrV strV at *
      clear hd hz
      go_enter Tryz.func37, Tryz.ntmps37
      go_wp2_with (fail)
      refine HT.out.mono ?_
      rintro e w1 ⟨rfl, hb⟩
      have HB1 := Lib.hid hb
      clear hb
      go_wp2_with (fail)
      refine (HAc.out _ HB1.out).mono ?_
      rintro e w2 ⟨rfl, hD, hg⟩
      have HA2 := Lib.hid ((Apart.of_below (F := DkF g b) HB1.out).trans (Apart.of_grown (F := DkF g b) hg (fun i hi => .inl (.inl (Option.some.inj hi).symm))) (fun i hi => .inl hi))
      have HD2 := Lib.hid hD
      have c0 := hD.head.cell (i := 0) (v := .map (some b)) rfl
      obtain ⟨w6, hup, hF6, hg6⟩ := hD.files.drop k hk 0
      rw [hm] at hF6
      have HD6 := Lib.hid (hD.map' hF6 hg6)
      have HA6 := Lib.hid (HA2.out.trans (Apart.of_grown (F := DkF g b) hg6 (fun i hi => .inl (.inr (Option.some.inj hi).symm))) (fun i hi => .inl hi))
      unfold strV at hup
      clear hD hg hm hF6 hg6
      go_wp2
      go_ret
      exact ⟨rfl, HD6.out, HA6.out⟩
end
end Go.Proofs.YtbaffabemomgjaaGreatDoor
