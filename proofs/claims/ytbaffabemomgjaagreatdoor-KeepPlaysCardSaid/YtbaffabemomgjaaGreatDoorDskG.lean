/- The walks of a disk's Rename and Truncate. Conditions: as each theorem says. -/
import Derived.Test.YtbaffabemomgjaaGreatDoorDskE
namespace Go.Proofs.YtbaffabemomgjaaGreatDoor
open Go.RowKit

section
variable {g b : Nat} {d : Dk} {w : World}
set_option maxRecDepth 100000 in
set_option maxHeartbeats 800000 in
theorem rename_nil (k t : Bys) (w : World) : Calls Tryz.prog 27 #[.pointer none, strV k, strV t] w fun e w' => e = .returned (.int .i64 2) ∧ w = w' := by
  unfold strV
  go_enter Tryz.func27, Tryz.ntmps27
  go_wp2_with (go_at_call 38; refine (lives_nil _).mono ?_; rintro e w' ⟨rfl, rfl⟩)
  go_ret
  exact ⟨rfl, rfl⟩
set_option maxRecDepth 100000 in
set_option maxHeartbeats 800000 in
theorem rename_any (h : DkAt g b d w) (hf : d.fit) (hn : d.m.length < 1000000) (k t : Bys) (hk : k.length ≤ maxLen) (ht : t.length ≤ maxLen) : Calls Tryz.prog 27 #[ptrV g, strV k, strV t] w (DkDone g b (renameD d k t).1 (renameD d k t).2 w) := by
  have HL := Lib.hid (lives_any h.head)
  unfold livesD at HL
  have HT := Lib.hid (there_any h k hk)
  have HH := Lib.hid h
  have HFit := Lib.hid hf
  have hre := bs_isEmpty t
  clear h hf
  unfold renameD
  by_cases hdd : d.dead = true
  · as_aux_lemma =>
    rw [if_pos hdd] at HL ⊢
    unfold ptrV strV at *
    clear hdd
    go_enter Tryz.func27, Tryz.ntmps27
    go_wp2_with (go_at_call 38; refine HL.out.mono ?_; rintro e w' ⟨rfl, rfl⟩)
    go_ret
    exact ⟨rfl, HH.out, Apart.refl _ _⟩
  rw [if_neg hdd] at HL ⊢
  clear hdd
  by_cases ht0 : t = []
  · as_aux_lemma =>
    rw [decide_eq_true ht0] at hre
    rw [if_pos ht0]
    unfold ptrV strV at *
    clear ht0
    go_enter Tryz.func27, Tryz.ntmps27
    go_wp2_with (go_at_call 38; refine HL.out.mono ?_; rintro e w' ⟨rfl, rfl⟩)
    go_ret
    exact ⟨rfl, HH.out, Apart.refl _ _⟩
  rw [decide_eq_false ht0] at hre
  rw [if_neg ht0]
  clear ht0
  by_cases h0 : thereD d k ≠ 0
  · as_aux_lemma =>
    rw [if_pos h0]
    have hc := there_cases d k
    generalize thereD d k = t at *
    have q0 : (t != 0) = true := by simpa using h0
    clear hc h0
    unfold ptrV strV at *
    go_enter Tryz.func27, Tryz.ntmps27
    go_wp2_with (first | (go_at_call 38; refine HL.out.mono ?_; rintro e w' ⟨rfl, rfl⟩) | (go_at_call 48; refine HT.out.mono ?_; rintro e w2 ⟨rfl, hb⟩))
    go_ret
    exact ⟨rfl, HH.out.grew hb, Apart.of_below hb⟩
  · rw [if_neg h0]
    have hz := there_zero h0
    have h1 : thereD d k = 0 := by omega
    rw [h1] at HT
    have HAc := Lib.hid (fun (W : World) (hW : Below w.heap.size w W) => act_any (HH.out.grew hW) HFit.out)
    unfold livesD at HAc
    clear h0 h1
    by_cases hd : (actD d).dead = true
    · as_aux_lemma =>
      rw [if_pos hd] at HAc ⊢
      unfold ptrV strV at *
      clear hd hz
      go_enter Tryz.func27, Tryz.ntmps27
      go_wp2_with (first | (go_at_call 38; refine HL.out.mono ?_; rintro e w' ⟨rfl, rfl⟩) | (go_at_call 48; refine HT.out.mono ?_; rintro e w1 ⟨rfl, hb⟩) | (go_at_call 42; refine (HAc.out _ hb).mono ?_; rintro e w2 ⟨rfl, hD, hg⟩; have HD := Lib.hid hD; have HA := Lib.hid ((Apart.of_below (F := DkF g b) hb).trans (Apart.of_grown (F := DkF g b) hg (fun i hi => .inl (.inl (Option.some.inj hi).symm))) (fun i hi => .inl hi)); clear hD hg))
      go_ret
      exact ⟨rfl, HD.out, HA.out⟩
    · as_aux_lemma =>
      rw [if_neg hd] at HAc ⊢
      have hm := act_m d
      have Hdl := Lib.hid (del_length_le d.m k)
      unfold ptrV strV at *
      clear hd hz
      go_enter Tryz.func27, Tryz.ntmps27
      go_wp2_with (go_at_call 38; refine HL.out.mono ?_; rintro e w' ⟨rfl, rfl⟩)
      refine HT.out.mono ?_
      rintro e w1 ⟨rfl, hb⟩
      have HB1 := Lib.hid hb
      clear hb
      go_wp2_with (fail)
      refine (HAc.out _ HB1.out).mono ?_
      rintro e w2 ⟨rfl, hD, hg⟩
      have HA2 := Lib.hid ((Apart.of_below (F := DkF g b) HB1.out).trans (Apart.of_grown (F := DkF g b) hg (fun i hi => .inl (.inl (Option.some.inj hi).symm))) (fun i hi => .inl hi))
      have HD2 := Lib.hid hD
      have c0 := hD.head.cell (i := 0) (v := .map (some b)) rfl
      have hlk := hD.files.look k hk
      rw [hm] at hlk
      unfold strV filV at hlk
      clear hD hg
      go_upto_region 12 with (fail)
      have hB5 := alloc_below w2 (.cells #[.string (bs (getF d.m k).d), .int .i64 (getF d.m k).s] FlT)
      have hF5 := BlkAt.alloc_new w2 (filCells (getF d.m k)) FlT
      have hD5 := HD2.out.grew hB5
      have hA5 := HA2.out.trans (Apart.of_below (F := DkF g b) hB5) (fun i hi => .inl hi)
      unfold filCells at hF5
      clear hlk c0 hB5
      generalize w2.alloc (.cells #[.string (bs (getF d.m k).d), .int .i64 (getF d.m k).s] FlT) = w5 at *
      have c0 := hD5.head.cell (i := 0) (v := .map (some b)) rfl
      obtain ⟨w6, hdel, hF6, hg6⟩ := hD5.files.drop k hk 0
      rw [hm] at hF6
      have hD6 := hD5.map' hF6 hg6
      have hA6 := hA5.trans (Apart.of_grown (F := DkF g b) hg6 (fun i hi => .inl (.inr (Option.some.inj hi).symm))) (fun i hi => .inl hi)
      have hF6' := hF5.grown hg6 (fun e => by
        have h1 := hD5.files
        obtain ⟨es, clock, hh, _⟩ := h1
        unfold BlkAt at hF5
        rw [Option.some.inj e] at hF5
        rw [hh] at hF5
        cases hF5)
      have HD6 := Lib.hid hD6
      have HA6 := Lib.hid hA6
      have HF6 := Lib.hid hF6'
      unfold strV at hdel
      clear hD5 hA5 hF5 hF6 hg6 hD6 hA6 hF6'
      go_upto_region 13 with (fail)
      clear hdel c0
      have c0 := HD6.out.head.cell (i := 0) (v := .map (some b)) rfl
      have f0 := HF6.out.cell (i := 0) rfl
      have f1 := HF6.out.cell (i := 1) rfl
      obtain ⟨w7, hup, hF7, hg7⟩ := HD6.out.files.drew.store (by have h9 := Hdl.out; unfold maxLen; simp only; omega) t ht (getF d.m k)
      have HD7 := Lib.hid (HD6.out.drew.map' hF7 hg7)
      have HA7 := Lib.hid (HA6.out.drew.trans (Apart.of_grown (F := DkF g b) hg7 (fun i hi => .inl (.inr (Option.some.inj hi).symm))) (fun i hi => .inl hi))
      unfold strV filV at hup
      clear hF7 hg7
      go_region
      go_wp2
      go_ret
      exact ⟨rfl, HD7.out, HA7.out⟩
end
end Go.Proofs.YtbaffabemomgjaaGreatDoor
