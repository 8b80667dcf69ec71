/- The walks of a disk's lives, there, act, New, Read, Arm. Conditions: as each theorem says. -/
import Derived.Test.YtbaffabemomgjaaGreatDoorDskA
namespace Go.Proofs.YtbaffabemomgjaaGreatDoor
open Go.RowKit

section
variable {g b : Nat} {d : Dk} {w : World}
set_option maxRecDepth 100000 in
theorem lives_nil (w : World) : Calls Tryz.prog 38 #[.pointer none] w fun e w' => e = .returned (.int .i64 2) ∧ w = w' := by
  go_enter Tryz.func38, Tryz.ntmps38
  go_wp2
  go_ret
  exact ⟨rfl, rfl⟩
set_option maxRecDepth 100000 in
theorem lives_any (h : BlkAt g DkT (dkCells b d) w) : Calls Tryz.prog 38 #[ptrV g] w fun e w' => e = .returned (.int .i64 (livesD d)) ∧ w = w' := by
  have c3 := h.cell (i := 3) rfl
  clear h
  unfold ptrV livesD
  cases hd : d.dead with
  | true =>
    rw [hd] at c3
    go_enter Tryz.func38, Tryz.ntmps38
    go_wp2
    go_ret
    exact ⟨rfl, rfl⟩
  | false =>
    rw [hd] at c3
    go_enter Tryz.func38, Tryz.ntmps38
    go_wp2
    go_ret
    exact ⟨rfl, rfl⟩
set_option maxRecDepth 100000 in
theorem there_nil (k : Bys) (w : World) : Calls Tryz.prog 48 #[.pointer none, strV k] w fun e w' => e = .returned (.int .i64 2) ∧ w = w' := by
  unfold strV
  go_enter Tryz.func48, Tryz.ntmps48
  go_wp2_with (go_at_call 38; refine (lives_nil _).mono ?_; rintro e w' ⟨rfl, rfl⟩)
  go_ret
  exact ⟨rfl, rfl⟩
set_option maxRecDepth 100000 in
theorem there_any (h : DkAt g b d w) (k : Bys) (hk : k.length ≤ maxLen) : Calls Tryz.prog 48 #[ptrV g, strV k] w fun e w' => e = .returned (.int .i64 (thereD d k)) ∧ Below w.heap.size w w' := by
  have c0 := h.head.cell (i := 0) rfl
  have hlk := h.files.look2 k hk
  have HL := Lib.hid (lives_any h.head)
  unfold livesD at HL
  unfold strV filV at hlk
  clear h
  unfold ptrV strV at *
  unfold thereD
  cases hd : d.dead with
  | true =>
    rw [hd, if_pos rfl] at HL
    rw [if_pos rfl]
    go_enter Tryz.func48, Tryz.ntmps48
    go_wp2_with (go_at_call 38; refine HL.out.mono ?_; rintro e w' ⟨rfl, rfl⟩)
    go_ret
    exact ⟨rfl, Below.refl _ _⟩
  | false =>
    rw [hd, if_neg (by decide)] at HL
    rw [if_neg (by decide)]
    cases hs : (getM d.m k).isSome with
    | true =>
      rw [hs] at hlk
      rw [if_pos rfl]
      go_enter Tryz.func48, Tryz.ntmps48
      go_wp2_with (go_at_call 38; refine HL.out.mono ?_; rintro e w' ⟨rfl, rfl⟩)
      go_ret
      exact ⟨rfl, alloc_below _ _⟩
    | false =>
      rw [hs] at hlk
      rw [if_neg (by decide)]
      go_enter Tryz.func48, Tryz.ntmps48
      go_wp2_with (go_at_call 38; refine HL.out.mono ?_; rintro e w' ⟨rfl, rfl⟩)
      go_ret
      exact ⟨rfl, alloc_below _ _⟩
theorem dk_armed (a : Int) : (dkCells b d).set 2 (.int .i64 a) = dkCells b { d with armed := a } := rfl
theorem dk_dead (x : Bool) : (dkCells b d).set 3 (.bool x) = dkCells b { d with dead := x } := rfl
set_option maxRecDepth 100000 in
theorem act_any (h : DkAt g b d w) (hf : d.fit) : Calls Tryz.prog 42 #[ptrV g] w fun e w' => e = .returned (.int .i64 (livesD (actD d))) ∧ DkAt g b (actD d) w' ∧ w.grownBy w' (some g) := by
  obtain ⟨ha0, ha1⟩ := hf.armed
  have c2 := h.head.cell (i := 2) rfl
  have c3 := h.head.cell (i := 3) rfl
  have fg : ∀ i, w.frozen? ⟨g, i, none⟩ = false := h.head.frozen
  have hgl := h.head.lt
  have HH := Lib.hid h
  clear h hf
  by_cases hp : 0 < d.armed
  · have e1 : actD d = { d with armed := d.armed - 1, dead := decide (d.armed - 1 = 0) } := by unfold actD; rw [if_pos hp]
    have hq : ∃ q : Bool, decide (d.armed - 1 = 0) = q ∧ ((d.armed - 1 : Int) == 0) = q := ⟨_, rfl, by rw [Bool.eq_iff_iff]; simp⟩
    obtain ⟨q, hq1, hq2⟩ := hq
    have hb := (HH.out.head.set 2 (.int .i64 (d.armed - 1))).set 3 (.bool q)
    rw [dk_armed, dk_dead] at hb
    have hg : w.grownBy _ (some g) := (grown_set w g 2 (.int .i64 (d.armed - 1))).trans (grown_set _ g 3 (.bool q))
    have HE : Hid (actD d = { d with armed := d.armed - 1, dead := q }) := Lib.hid (by rw [e1, hq1])
    have HL := Lib.hid (lives_any (d := { d with armed := d.armed - 1, dead := q }) hb)
    have HD := Lib.hid (HH.out.head' (d' := { d with armed := d.armed - 1, dead := q }) rfl hb hg)
    have HG := Lib.hid hg
    clear e1 hq1 hb hg
    rw [HE.out]
    unfold ptrV at *
    have ha2 : 0 ≤ d.armed - 1 := by omega
    go_enter Tryz.func42, Tryz.ntmps42
    go_wp2_with (go_at_call 38; refine HL.out.mono ?_; rintro e w' ⟨rfl, rfl⟩)
    go_ret
    exact ⟨rfl, HD.out, HG.out⟩
  · have e1 : actD d = d := by unfold actD; rw [if_neg hp]
    have HL := Lib.hid (lives_any HH.out.head)
    rw [e1]
    have hp0 : decide (0 < d.armed) = false := decide_eq_false hp
    unfold ptrV at *
    clear e1
    go_enter Tryz.func42, Tryz.ntmps42
    go_wp2_with (go_at_call 38; refine HL.out.mono ?_; rintro e w' ⟨rfl, rfl⟩)
    go_ret
    exact ⟨rfl, HH.out, ⟨rfl, rfl, rfl, Nat.le_refl _, fun _ _ _ => rfl⟩⟩
set_option maxRecDepth 100000 in
theorem read_nil (k : Bys) (w : World) : Calls Tryz.prog 21 #[.pointer none, strV k] w fun e w' => e = .returned (.tuple #[strV [], .int .i64 2]) ∧ w = w' := by
  have HT := Lib.hid (fun W => there_nil k W)
  unfold strV at *
  go_enter Tryz.func21, Tryz.ntmps21
  go_wp2_with (go_at_call 48; refine (HT.out _).mono ?_; rintro e w' ⟨rfl, rfl⟩)
  go_ret2
  exact ⟨rfl, rfl⟩
theorem run_fil0 (s : ByteArray) (n : Int) (W : World) : (Instr.field FlT (.agg #[.string s, .int .i64 n]) 0).run Tryz.prog W = .ok (.string s) W := by kernel_rfl
theorem there_cases (d : Dk) (k : Bys) : thereD d k = 0 ∨ thereD d k = 20 ∨ thereD d k = 21 := by unfold thereD; split; exact .inr (.inl rfl); split; exact .inl rfl; exact .inr (.inr rfl)
set_option maxRecDepth 100000 in
theorem read_any (h : DkAt g b d w) (k : Bys) (hk : k.length ≤ maxLen) : Calls Tryz.prog 21 #[ptrV g, strV k] w fun e w' => e = .returned (.tuple #[strV (readD d k).1, .int .i64 (readD d k).2]) ∧ Below w.heap.size w w' := by
  have HT := Lib.hid (there_any h k hk)
  have HH := Lib.hid h
  clear h
  unfold readD
  by_cases h0 : thereD d k ≠ 0
  · rw [if_pos h0]
    have hc := there_cases d k
    generalize thereD d k = t at *
    have q0 : (t != 0) = true := by simpa using h0
    clear hc h0
    unfold ptrV strV at *
    go_enter Tryz.func21, Tryz.ntmps21
    go_wp2_with (go_at_call 48; refine HT.out.mono ?_; rintro e w' ⟨rfl, hb⟩)
    go_ret2
    exact ⟨rfl, hb⟩
  · rw [if_neg h0]
    have h1 : thereD d k = 0 := by omega
    rw [h1] at HT
    clear h0 h1
    unfold ptrV strV at *
    go_enter Tryz.func21, Tryz.ntmps21
    go_wp2_with (fail)
    refine HT.out.mono ?_
    rintro e w1 ⟨rfl, hb⟩
    have hD := HH.out.grew hb
    have c0 := hD.head.cell (i := 0) rfl
    have hlk := hD.files.look k hk
    unfold strV filV at hlk
    have hfd := fun (s : ByteArray) (n : Int) (W : World) => run_fil0 s n W
    clear hD
    go_wp2
    go_ret2
    exact ⟨rfl, hb⟩
set_option maxRecDepth 100000 in
theorem arm_nil (n : Int) (w : World) : Calls Tryz.prog 13 #[.pointer none, .int .i64 n] w fun e w' => e = .returned (.int .i64 2) ∧ w = w' := by
  go_enter Tryz.func13, Tryz.ntmps13
  go_wp2_with (go_at_call 38; refine (lives_nil _).mono ?_; rintro e w' ⟨rfl, rfl⟩)
  go_ret
  exact ⟨rfl, rfl⟩
theorem grown_refl (w : World) (row : Option Nat) : w.grownBy w row := ⟨rfl, rfl, rfl, Nat.le_refl _, fun _ _ _ => rfl⟩
set_option maxRecDepth 100000 in
theorem arm_any (h : DkAt g b d w) (n : Int) : Calls Tryz.prog 13 #[ptrV g, .int .i64 n] w fun e w' => e = .returned (.int .i64 (armD d n).2) ∧ DkAt g b (armD d n).1 w' ∧ w.grownBy w' (some g) := by
  have HL := Lib.hid (lives_any h.head)
  unfold livesD at HL
  have c2 := h.head.cell (i := 2) rfl
  have fg : ∀ i, w.frozen? ⟨g, i, none⟩ = false := h.head.frozen
  have hgl := h.head.lt
  have HH := Lib.hid h
  have hb := h.head.set 2 (.int .i64 n)
  rw [dk_armed] at hb
  have HD := Lib.hid (h.head' (d' := { d with armed := n }) rfl hb (grown_set w g 2 _))
  clear h hb
  unfold ptrV at *
  unfold armD
  cases hd : d.dead with
  | true =>
    rw [hd, if_pos rfl] at HL
    rw [if_pos rfl]
    go_enter Tryz.func13, Tryz.ntmps13
    go_wp2_with (go_at_call 38; refine HL.out.mono ?_; rintro e w' ⟨rfl, rfl⟩)
    go_ret
    exact ⟨rfl, HH.out, grown_refl _ _⟩
  | false =>
    rw [hd, if_neg (by decide)] at HL
    rw [if_neg (by decide)]
    by_cases hn : n < 0
    · rw [if_pos hn]
      go_enter Tryz.func13, Tryz.ntmps13
      go_wp2_with (go_at_call 38; refine HL.out.mono ?_; rintro e w' ⟨rfl, rfl⟩)
      go_ret
      exact ⟨rfl, HH.out, grown_refl _ _⟩
    · rw [if_neg hn]
      have hn0 : decide (n < 0) = false := decide_eq_false hn
      go_enter Tryz.func13, Tryz.ntmps13
      go_wp2_with (go_at_call 38; refine HL.out.mono ?_; rintro e w' ⟨rfl, rfl⟩)
      go_ret
      exact ⟨rfl, by have h9 := HD.out; rw [hd] at h9; exact h9, grown_set _ _ _ _⟩
end
set_option maxRecDepth 100000 in
theorem newBad_any (n : Int) (hn : n < 1 ∨ 1073741824 < n) (w : World) : Calls Tryz.prog 4 #[.int .i64 n] w fun e w' => e = .returned (.tuple #[.pointer none, .int .i64 1]) ∧ w = w' := by
  by_cases h1 : n < 1
  · have d1 : decide (n < 1) = true := decide_eq_true h1
    clear hn
    go_enter Tryz.func4, Tryz.ntmps4
    go_wp2
    go_ret2
    exact ⟨rfl, rfl⟩
  · have d1 : decide (n < 1) = false := decide_eq_false h1
    have d2 : decide (1073741824 < n) = true := decide_eq_true (by omega)
    clear hn h1
    go_enter Tryz.func4, Tryz.ntmps4
    go_wp2
    go_ret2
    exact ⟨rfl, rfl⟩
def newD (n : Int) : Dk := ⟨[], n, 0, false⟩
theorem newD_fit (n : Int) (h1 : 1 ≤ n) (h2 : n ≤ 1073741824) : (newD n).fit := ⟨List.Pairwise.nil, h1, h2, by show ((0 : Nat) : Int) ≤ n; omega, fun p hp => (by cases hp), by show (0 : Int) ≤ 0 ∧ (0 : Int) < _; omega⟩
set_option maxRecDepth 100000 in
theorem new_any (n : Int) (h1 : 1 ≤ n) (h2 : n ≤ 1073741824) (w : World) : Calls Tryz.prog 4 #[.int .i64 n] w fun e w' => e = .returned (.tuple #[ptrV (w.heap.size + 1), .int .i64 0]) ∧ DkAt (w.heap.size + 1) w.heap.size (newD n) w' ∧ Below w.heap.size w w' := by
  have d1 : decide (n < 1) = false := decide_eq_false (by omega)
  have d2 : decide (1073741824 < n) = false := decide_eq_false (by omega)
  have hmm := @run_makeMap Tryz.prog
  have h3 := BlkAt.alloc_new (w.alloc (.map #[] 0)) (dkCells w.heap.size (newD n)) DkT
  have hz : (w.alloc (.map #[] 0)).heap.size = w.heap.size + 1 := by simp
  rw [hz] at h3
  have HD : Hid (DkAt (w.heap.size + 1) w.heap.size (newD n) ((w.alloc (.map #[] 0)).alloc (.cells (dkCells w.heap.size (newD n)).toArray DkT))) := Lib.hid ⟨h3, (files_new w).grew (alloc_below _ _)⟩
  have HB : Hid (∀ o, Below w.heap.size w ((w.alloc (.map #[] 0)).alloc o)) := Lib.hid (fun o => (alloc_below w _).trans ((alloc_below _ o).mono (by simp)))
  unfold dkCells newD at HD
  simp only at HD
  clear h3 hz
  unfold ptrV
  go_enter Tryz.func4, Tryz.ntmps4
  go_wp2
  go_ret2
  exact ⟨rfl, HD.out, HB.out _⟩
end Go.Proofs.YtbaffabemomgjaaGreatDoor
