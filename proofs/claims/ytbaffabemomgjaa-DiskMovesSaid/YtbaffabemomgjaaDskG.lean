/- The walks of a disk's Rename and Truncate. Conditions: as each theorem says. -/
import Derived.Test.YtbaffabemomgjaaDskE
namespace Go.Proofs.Ytbaffabemomgjaa
open Go.RowKit

section
variable {g b : Nat} {d : Dk} {w : World}
set_option maxRecDepth 100000 in
set_option maxHeartbeats 800000 in
theorem rename_nil (k t : Bys) (w : World) : Calls Try.prog 10 #[.pointer none, strV k, strV t] w fun e w' => e = .returned (.int .i64 2) ∧ w = w' := by
  unfold strV
  go_enter Try.func10, Try.ntmps10
  go_wp2_with (go_at_call 20; refine (lives_nil _).mono ?_; rintro e w' ⟨rfl, rfl⟩)
  go_ret
  exact ⟨rfl, rfl⟩
set_option maxRecDepth 100000 in
set_option maxHeartbeats 800000 in
theorem rename_any (h : DkAt g b d w) (hf : d.fit) (hn : d.m.length < 1000000) (k t : Bys) (hk : k.length ≤ maxLen) (ht : t.length ≤ maxLen) : Calls Try.prog 10 #[ptrV g, strV k, strV t] w (DkDone g b (renameD d k t).1 (renameD d k t).2 w) := by
  have HL := Lib.hid (lives_any h.head)
  unfold livesD at HL
  have HT := Lib.hid (there_any h k hk)
  have HH := Lib.hid h
  have HFit := Lib.hid hf
  have hre := bs_isEmpty t
  clear h hf
  unfold renameD
  by_cases hdd : d.dead = true
  · as_aux_lemma =>
    rw [if_pos hdd] at HL ⊢
    unfold ptrV strV at *
    clear hdd
    go_enter Try.func10, Try.ntmps10
    go_wp2_with (go_at_call 20; refine HL.out.mono ?_; rintro e w' ⟨rfl, rfl⟩)
    go_ret
    exact ⟨rfl, HH.out, Apart.refl _ _⟩
  rw [if_neg hdd] at HL ⊢
  clear hdd
  by_cases ht0 : t = []
  · as_aux_lemma =>
    rw [decide_eq_true ht0] at hre
    rw [if_pos ht0]
    unfold ptrV strV at *
    clear ht0
    go_enter Try.func10, Try.ntmps10
    go_wp2_with (go_at_call 20; refine HL.out.mono ?_; rintro e w' ⟨rfl, rfl⟩)
    go_ret
    exact ⟨rfl, HH.out, Apart.refl _ _⟩
  rw [decide_eq_false ht0] at hre
  rw [if_neg ht0]
  clear ht0
  by_cases h0 : thereD d k ≠ 0
  · as_aux_lemma =>
    rw [if_pos h0]
    have hc := there_cases d k
    generalize thereD d k = t at *
    have q0 : (t != 0) = true := by simpa using h0
    clear hc h0
    unfold ptrV strV at *
    go_enter Try.func10, Try.ntmps10
    go_wp2_with (first | (go_at_call 20; refine HL.out.mono ?_; rintro e w' ⟨rfl, rfl⟩) | (go_at_call 23; refine HT.out.mono ?_; rintro e w2 ⟨rfl, hb⟩))
    go_ret
    exact ⟨rfl, HH.out.grew hb, Apart.of_below hb⟩
  · rw [if_neg h0]
    have hz := there_zero h0
    have h1 : thereD d k = 0 := by omega
    rw [h1] at HT
    have HAc := Lib.hid (fun (W : World) (hW : Below w.heap.size w W) => act_any (HH.out.grew hW) HFit.out)
    unfold livesD at HAc
    clear h0 h1
    by_cases hd : (actD d).dead = true
    · as_aux_lemma =>
      rw [if_pos hd] at HAc ⊢
      unfold ptrV strV at *
      clear hd hz
      go_enter Try.func10, Try.ntmps10
      go_wp2_with (first | (go_at_call 20; refine HL.out.mono ?_; rintro e w' ⟨rfl, rfl⟩) | (go_at_call 23; refine HT.out.mono ?_; rintro e w1 ⟨rfl, hb⟩) | (go_at_call 22; refine (HAc.out _ hb).mono ?_; rintro e w2 ⟨rfl, hD, hg⟩; have HD := Lib.hid hD; have HA := Lib.hid ((Apart.of_below (F := DkF g b) hb).trans (Apart.of_grown (F := DkF g b) hg (fun i hi => .inl (.inl (Option.some.inj hi).symm))) (fun i hi => .inl hi)); clear hD hg))
      go_ret
      exact ⟨rfl, HD.out, HA.out⟩
    · as_aux_lemma =>
      rw [if_neg hd] at HAc ⊢
      have hm := act_m d
      have Hdl := Lib.hid (del_length_le d.m k)
      unfold ptrV strV at *
      clear hd hz
      go_enter Try.func10, Try.ntmps10
      go_wp2_with (go_at_call 20; refine HL.out.mono ?_; rintro e w' ⟨rfl, rfl⟩)
      refine HT.out.mono ?_
      rintro e w1 ⟨rfl, hb⟩
      have HB1 := Lib.hid hb
      clear hb
      go_wp2_with (fail)
      refine (HAc.out _ HB1.out).mono ?_
      rintro e w2 ⟨rfl, hD, hg⟩
      have HA2 := Lib.hid ((Apart.of_below (F := DkF g b) HB1.out).trans (Apart.of_grown (F := DkF g b) hg (fun i hi => .inl (.inl (Option.some.inj hi).symm))) (fun i hi => .inl hi))
      have HD2 := Lib.hid hD
      have c0 := hD.head.cell (i := 0) (v := .map (some b)) rfl
      have hlk := hD.files.look k hk
      rw [hm] at hlk
      unfold strV filV at hlk
      clear hD hg
      go_upto_region 12 with (fail)
      have hB5 := alloc_below w2 (.cells #[.string (bs (getF d.m k).d), .int .i64 (getF d.m k).s] FlT)
      have hF5 := BlkAt.alloc_new w2 (filCells (getF d.m k)) FlT
      have hD5 := HD2.out.grew hB5
      have hA5 := HA2.out.trans (Apart.of_below (F := DkF g b) hB5) (fun i hi => .inl hi)
      unfold filCells at hF5
      clear hlk c0 hB5
      generalize w2.alloc (.cells #[.string (bs (getF d.m k).d), .int .i64 (getF d.m k).s] FlT) = w5 at *
      have c0 := hD5.head.cell (i := 0) (v := .map (some b)) rfl
      obtain ⟨w6, hdel, hF6, hg6⟩ := hD5.files.drop k hk 0
      rw [hm] at hF6
      have hD6 := hD5.map' hF6 hg6
      have hA6 := hA5.trans (Apart.of_grown (F := DkF g b) hg6 (fun i hi => .inl (.inr (Option.some.inj hi).symm))) (fun i hi => .inl hi)
      have hF6' := hF5.grown hg6 (fun e => by
        have h1 := hD5.files
        obtain ⟨es, clock, hh, _⟩ := h1
        unfold BlkAt at hF5
        rw [Option.some.inj e] at hF5
        rw [hh] at hF5
        cases hF5)
      have HD6 := Lib.hid hD6
      have HA6 := Lib.hid hA6
      have HF6 := Lib.hid hF6'
      unfold strV at hdel
      clear hD5 hA5 hF5 hF6 hg6 hD6 hA6 hF6'
      go_upto_region 13 with (fail)
      clear hdel c0
      have c0 := HD6.out.head.cell (i := 0) (v := .map (some b)) rfl
      have f0 := HF6.out.cell (i := 0) rfl
      have f1 := HF6.out.cell (i := 1) rfl
      obtain ⟨w7, hup, hF7, hg7⟩ := HD6.out.files.drew.store (by have h9 := Hdl.out; unfold maxLen; simp only; omega) t ht (getF d.m k)
      have HD7 := Lib.hid (HD6.out.drew.map' hF7 hg7)
      have HA7 := Lib.hid (HA6.out.drew.trans (Apart.of_grown (F := DkF g b) hg7 (fun i hi => .inl (.inr (Option.some.inj hi).symm))) (fun i hi => .inl hi))
      unfold strV filV at hup
      clear hF7 hg7
      go_region
      go_wp2
      go_ret
      exact ⟨rfl, HD7.out, HA7.out⟩
set_option maxRecDepth 100000 in
theorem trunc_nil (k : Bys) (n : Int) (w : World) : Calls Try.prog 15 #[.pointer none, strV k, .int .i64 n] w fun e w' => e = .returned (.int .i64 2) ∧ w = w' := by
  have HT := Lib.hid (fun W => there_nil k W)
  unfold strV at *
  go_enter Try.func15, Try.ntmps15
  go_wp2_with (go_at_call 23; refine (HT.out _).mono ?_; rintro e w' ⟨rfl, rfl⟩)
  go_ret
  exact ⟨rfl, rfl⟩
set_option maxRecDepth 100000 in
set_option maxHeartbeats 800000 in
theorem trunc_any (h : DkAt g b d w) (hf : d.fit) (hn : d.m.length < 1000000) (k : Bys) (n : Int) (hk : k.length ≤ maxLen) : Calls Try.prog 15 #[ptrV g, strV k, .int .i64 n] w (DkDone g b (truncD d k n).1 (truncD d k n).2 w) := by
  have HT := Lib.hid (there_any h k hk)
  have HH := Lib.hid h
  have HFit := Lib.hid hf
  clear h hf
  unfold truncD
  by_cases h0 : thereD d k ≠ 0
  · as_aux_lemma =>
    rw [if_pos h0]
    have hc := there_cases d k
    generalize thereD d k = t at *
    have q0 : (t != 0) = true := by simpa using h0
    clear hc h0
    unfold ptrV strV at *
    go_enter Try.func15, Try.ntmps15
    go_wp2_with (go_at_call 23; refine HT.out.mono ?_; rintro e w' ⟨rfl, hb⟩)
    go_ret
    exact ⟨rfl, HH.out.grew hb, Apart.of_below hb⟩
  rw [if_neg h0]
  have hz := there_zero h0
  have h1 : thereD d k = 0 := by omega
  rw [h1] at HT
  clear h0 h1
  have hlk1 := fun (W : World) (hW : Below w.heap.size w W) => (HH.out.grew hW).files.look k hk
  unfold strV filV at hlk1
  have HLk := Lib.hid hlk1
  have hbl : (bs (getF d.m k).d).size = (getF d.m k).d.length := bs_size _
  clear hlk1
  by_cases hbad : n < 0 ∨ ((getF d.m k).d.length : Int) < n
  · as_aux_lemma =>
    rw [if_pos hbad]
    unfold ptrV strV at *
    by_cases hn0 : n < 0
    · have q1 : decide (n < 0) = true := decide_eq_true hn0
      clear hbad hn0
      go_enter Try.func15, Try.ntmps15
      go_wp2_with (fail)
      refine HT.out.mono ?_
      rintro e w1 ⟨rfl, hb⟩
      have hlk := HLk.out w1 hb
      have c0 := (HH.out.grew hb).head.cell (i := 0) (v := .map (some b)) rfl
      have HD := Lib.hid (fun o => (HH.out.grew hb).grew (alloc_below w1 o))
      have HA := Lib.hid (fun o => (Apart.of_below (F := DkF g b) hb).trans (Apart.of_below (F := DkF g b) (alloc_below w1 o)) (fun i hi => .inl hi))
      clear hb
      go_wp2
      go_ret
      exact ⟨rfl, HD.out _, HA.out _⟩
    · have q1 : decide (n < 0) = false := decide_eq_false hn0
      have q2 : decide (((getF d.m k).d.length : Int) < n) = true := decide_eq_true (by omega)
      clear hbad hn0
      go_enter Try.func15, Try.ntmps15
      go_wp2_with (fail)
      refine HT.out.mono ?_
      rintro e w1 ⟨rfl, hb⟩
      have hlk := HLk.out w1 hb
      have c0 := (HH.out.grew hb).head.cell (i := 0) (v := .map (some b)) rfl
      have HD := Lib.hid (fun o => (HH.out.grew hb).grew (alloc_below w1 o))
      have HA := Lib.hid (fun o => (Apart.of_below (F := DkF g b) hb).trans (Apart.of_below (F := DkF g b) (alloc_below w1 o)) (fun i hi => .inl hi))
      clear hb
      go_wp2
      go_ret
      exact ⟨rfl, HD.out _, HA.out _⟩
  · rw [if_neg hbad]
    have q1 : decide (n < 0) = false := decide_eq_false (by omega)
    have q2 : decide (((getF d.m k).d.length : Int) < n) = false := decide_eq_false (by omega)
    have hn0 : 0 ≤ n := by omega
    have hn1 : n ≤ (getF d.m k).d.length := by omega
    have hlt : (getF d.m k).d.length ≤ total d.m := by rw [getF_len]; exact size_le_total HFit.out.sorted k
    have hu := HFit.out.used
    have hhi := HFit.out.hi
    have HAc := Lib.hid (fun (W : World) (hW : Below w.heap.size w W) => act_any (HH.out.grew hW) HFit.out)
    unfold livesD at HAc
    clear hbad
    by_cases hd : (actD d).dead = true
    · as_aux_lemma =>
      rw [if_pos hd] at HAc ⊢
      unfold ptrV strV at *
      clear hd hz
      go_enter Try.func15, Try.ntmps15
      go_wp2_with (fail)
      refine HT.out.mono ?_
      rintro e w1 ⟨rfl, hb⟩
      have hlk := HLk.out w1 hb
      have c0 := (HH.out.grew hb).head.cell (i := 0) (v := .map (some b)) rfl
      have HBa := Lib.hid (fun o => hb.trans ((alloc_below w1 o).mono hb.size))
      clear hb
      go_wp2_with (go_at_call 22; refine (HAc.out _ (HBa.out _)).mono ?_; rintro e w2 ⟨rfl, hD, hg⟩; have HD := Lib.hid hD; have HA := Lib.hid ((Apart.of_below (F := DkF g b) (HBa.out _)).trans (Apart.of_grown (F := DkF g b) hg (fun i hi => .inl (.inl (Option.some.inj hi).symm))) (fun i hi => .inl hi)); clear hD hg)
      go_ret
      exact ⟨rfl, HD.out, HA.out⟩
    · as_aux_lemma =>
      rw [if_neg hd] at HAc ⊢
      have hm := act_m d
      have Hpl := Lib.hid (put_there hz.2)
      unfold ptrV strV at *
      clear hd hz
      go_enter Try.func15, Try.ntmps15
      go_wp2_with (fail)
      refine HT.out.mono ?_
      rintro e w1 ⟨rfl, hb⟩
      have hlk := HLk.out w1 hb
      have hD1 := HH.out.grew hb
      have c0 := hD1.head.cell (i := 0) (v := .map (some b)) rfl
      have hgl := hD1.head.lt
      have HBa := Lib.hid (fun o => hb.trans ((alloc_below w1 o).mono hb.size))
      have HF1 := Lib.hid (BlkAt.alloc_new w1 (filCells (getF d.m k)) FlT)
      unfold filCells at HF1
      clear hb hD1
      go_wp2_with (fail)
      refine (HAc.out _ (HBa.out _)).mono ?_
      rintro e w2 ⟨rfl, hD, hg⟩
      have HA2 := Lib.hid ((Apart.of_below (F := DkF g b) (HBa.out _)).trans (Apart.of_grown (F := DkF g b) hg (fun i hi => .inl (.inl (Option.some.inj hi).symm))) (fun i hi => .inl hi))
      have HD2 := Lib.hid hD
      have hF2 := HF1.out.grown hg (fun e => by have := Option.some.inj e; omega)
      clear hlk c0
      have c0 := hD.head.cell (i := 0) (v := .map (some b)) rfl
      have f0 := hF2.cell (i := 0) rfl
      have f1 := hF2.cell (i := 1) rfl
      clear hD hg hF2
      have hex : (bs (getF d.m k).d).extract 0 n.toNat = bs ((getF d.m k).d.take n.toNat) := by rw [bs_extract, List.drop_zero, Nat.sub_zero]
      obtain ⟨w6, hup, hF6, hg6⟩ := HD2.out.files.drew.store (by rw [hm]; unfold maxLen; omega) k hk ⟨(getF d.m k).d.take n.toNat, if n < (getF d.m k).s then n else (getF d.m k).s⟩
      rw [hm, show (if n < (getF d.m k).s then n else (getF d.m k).s) = min (getF d.m k).s n by split <;> omega] at hF6
      have HD6 := Lib.hid (HD2.out.drew.map' hF6 hg6)
      have HA6 := Lib.hid (HA2.out.drew.trans (Apart.of_grown (F := DkF g b) hg6 (fun i hi => .inl (.inr (Option.some.inj hi).symm))) (fun i hi => .inl hi))
      unfold strV filV at hup
      simp only at hup
      clear hF6 hg6 hm
      go_wp2_with (fail)
      go_region
      go_wp2
      all_goals
        go_ret
        exact ⟨rfl, HD6.out, HA6.out⟩
end
end Go.Proofs.Ytbaffabemomgjaa
