/- The law VoteHalf, walked. Conditions: as each theorem says. -/
import Derived.Test.YtaahbfcnccmcoaaVoteS
namespace Go.Proofs.Ytaahbfcnccmcoaa
open Go.RowKit

def whoCells (m k : Nat) (z : Int × Int) (ep : Int) : List Value := [.int .i64 m, .int .i64 k, .int .i64 z.1, .int .i64 z.2, .int .i64 ep]
theorem votCells_length (v : Vot) : (votCells v).length = 6 := rfl
set_option maxRecDepth 100000 in
theorem run_field_vot (a b c d e f : Int) (W : World) : (Instr.field 55 (.agg #[.int .i64 a, .int .i64 b, .int .i64 c, .int .i64 d, .int .i64 e, .int .i64 f]) 0).run Try.prog W = .ok (.int .i64 a) W := by kernel_rfl
theorem poll_grew {g : Nat} {p : Poll} {w W : World} (h : PollAt g p w) (hW : Grew w W) : PollAt g p W := BlkAt.grew h hW
theorem step_same (p : Poll) (n : Int) (v : Vot) : (stepP p n v).1.me = p.me ∧ (stepP p n v).1.nodes = p.nodes := by
  unfold stepP takeP
  (repeat' split) <;> exact ⟨rfl, rfl⟩
set_option maxRecDepth 100000 in
set_option maxHeartbeats 3200000 in
theorem half_any (x : WhoS) (L : List OpS) (a : Option Addr) (cap : Nat) (w : World) (hL : OpsAt w (.slice a L.length cap) L) (hn : L.length ≤ maxLen) :
    Calls Try.prog 6 #[whoV x, .slice a L.length cap] w fun e w' => e = .returned (.bool true) ∧ Below w.heap.size w w' := by
  unfold maxLen at hn
  have HO := Lib.hid (fun w2 (h : Below w.heap.size w w2) => hL.grew h)
  have HL := Lib.hid hL
  have hb1 := Lib.hid (alloc_below w)
  clear hL
  unfold whoV
  by_cases hbad : badNew x.me x.nodes x.z x.ep
  · as_aux_lemma =>
    have HNB := Lib.hid (fun W => new_bad x.me x.nodes x.z x.ep hbad W)
    clear hbad
    go_enter Try.func6, Try.ntmps6
    go_wp2_with (fail)
    refine (HNB.out _).mono ?_
    rintro e w1 ⟨rfl, hB1⟩
    have B1 := (hb1.out _).trans (hB1.mono (by simp))
    clear hB1
    go_wp2_with (fail)
    refine (vawake_any _).mono ?_
    rintro e w9 ⟨rfl, hb9⟩
    go_wp2
    go_ret
    exact ⟨rfl, B1.trans (hb9.mono B1.size)⟩
  · obtain ⟨m, k, hm, hk, h1, h7, hmk, hep, hz1, hz2⟩ := who_good x hbad
    have HNG := Lib.hid (fun W => new_any m k x.z x.ep h1 h7 hmk hep hz1 hz2 W)
    have Hhalf0 := Lib.hid (half_new m k ⟨m, x.z.1, x.z.2, x.ep⟩ h1 h7 hmk)
    rw [hm, hk]
    have HVo := Lib.hid (fun g p W hW => voteM_any g p W hW)
    have HWo := Lib.hid (fun g p hf hno W hW => won_any g p hf hno W hW)
    unfold ptrV at HNG HVo HWo
    unfold votV at HVo
    have HX0 := Lib.hid (BlkAt.alloc_new w (whoCells m k x.z x.ep) 48)
    clear hbad hm hk hep hz1 hz2
    go_enter Try.func6, Try.ntmps6
    go_wp2_with (fail)
    refine (HNG.out _).mono ?_
    rintro e w1 ⟨g, rfl, hg, hP1, hB1⟩
    have hgw' : w.heap.size + 1 ≤ g := by simpa using hg
    have hgw : w.heap.size ≤ g := by omega
    have B1 := Lib.hid ((hb1.out _).trans (hB1.mono (by simp)))
    have HX1 := Lib.hid (BlkAt.grew HX0.out hB1)
    have HP1 := Lib.hid hP1
    obtain ⟨GL, hGL⟩ : ∃ GL, GL = w1.heap.size := ⟨_, rfl⟩
    have hLg' : g < w1.heap.size := BlkAt.lt hP1
    have hLg : GL ≠ g := by omega
    have hXL' : w.heap.size < w1.heap.size := BlkAt.lt HX1.out
    have hXL : w.heap.size ≠ GL := by omega
    have hGLw : w.heap.size ≤ GL := by omega
    have HK1 := Lib.hid (BlkAt.alloc_new w1 ((List.replicate 7 zeroVot).flatMap votCells) 56)
    have HP1a := Lib.hid (BlkAt.grew HP1.out (alloc_below w1 (.cells ((List.replicate 7 zeroVot).flatMap votCells).toArray 56)))
    have HX1a := Lib.hid (BlkAt.grew HX1.out (alloc_below w1 (.cells ((List.replicate 7 zeroVot).flatMap votCells).toArray 56)))
    have B1a := Lib.hid (B1.out.alloc B1.out.size (.cells ((List.replicate 7 zeroVot).flatMap votCells).toArray 56))
    have HGL := Lib.hid hGL
    clear hB1 hP1 hg hGL hLg' hXL'
    rw [← HGL.out] at HK1
    go_wp2_with (fail)
    rw [← HGL.out]
    go_loopw [8] (fun vi wr => ∃ (i : Nat) (p : Poll) (K : List Vot), vi = .int .i64 (i : Int) ∧ i ≤ L.length ∧ i ≤ 50 ∧ Half p K ∧ p.me = m ∧ p.nodes = k ∧ PollAt g p wr ∧ BlkAt GL 56 (K.flatMap votCells) wr ∧ BlkAt w.heap.size 48 (whoCells m k x.z x.ep) wr ∧ Below w.heap.size w wr) (fun vi _ => L.length - (intOf vi).toNat)
    case atStart => exact ⟨0, _, _, rfl, by omega, by omega, Hhalf0.out, rfl, rfl, HP1a.out, HK1.out, HX1a.out, B1a.out⟩
    case round =>
      obtain ⟨i, p, K, rfl, hi, hi50, hhalf, hpm, hpn, hP, hK, hX, hbr⟩ := hrel
      have Hhalf := Lib.hid hhalf
      have HPm := Lib.hid hpm
      have HPn := Lib.hid hpn
      have HP := Lib.hid hP
      have HK := Lib.hid hK
      have HX := Lib.hid hX
      have Hbr := Lib.hid hbr
      have hgl : g < wr.heap.size := BlkAt.lt hP
      clear hhalf hpm hpn hP hK hX hbr
      by_cases h : i < L.length ∧ i < 50
      · obtain ⟨h, h50⟩ := h
        have d0 : decide (i < L.length) = true := decide_eq_true h
        have d1 : decide ((i : Int) < 50) = true := decide_eq_true (by omega)
        obtain ⟨bb, off, rfl, hrg0⟩ := ops_get HL.out i h
        have hbbw : bb < w.heap.size := block_lt_of_cell (hrg0 0 _ rfl)
        have hrg := range_grew hrg0 Hbr.out
        generalize L[i] = o at *
        obtain ⟨ob, f, ⟨⟨l, be, bc, bp⟩, vr, vs⟩⟩ := o
        obtain ⟨c0, c1, c2, c3, c4, c5, c6, c7⟩ := op_at hrg
        have HV0 := Lib.hid (BlkAt.alloc_new wr (votCells ⟨⟨l, be, bc, bp⟩, 0, 1⟩) 55)
        have Hal := Lib.hid (alloc_below wr (.cells (votCells ⟨⟨l, be, bc, bp⟩, 0, 1⟩).toArray 55))
        clear hrg hrg0
        simp only at c0 c1 c2 c3 c4 c5 c6 c7
        go_upto_region 11 with (fail)
        obtain ⟨wv, hwv⟩ : ∃ wv, wv = wr.alloc (.cells (votCells ⟨⟨l, be, bc, bp⟩, 0, 1⟩).toArray 55) := ⟨_, rfl⟩
        have HWV := Lib.hid hwv
        have HVv := Lib.hid (show BlkAt wr.heap.size 55 (votCells ⟨⟨l, be, bc, bp⟩, 0, 1⟩) wv by rw [hwv]; exact HV0.out)
        have HPv := Lib.hid (show PollAt g p wv by rw [hwv]; exact BlkAt.grew HP.out Hal.out)
        have HKv := Lib.hid (show BlkAt GL 56 (K.flatMap votCells) wv by rw [hwv]; exact BlkAt.grew HK.out Hal.out)
        have HXv := Lib.hid (show BlkAt w.heap.size 48 (whoCells m k x.z x.ep) wv by rw [hwv]; exact BlkAt.grew HX.out Hal.out)
        have Hbv := Lib.hid (show Below w.heap.size w wv by rw [hwv]; exact Hbr.out.trans (Hal.out.mono Hbr.out.size))
        have c1 : wv.cell? ⟨bb, off + i * 8 + 1, none⟩ = some (.int .i64 f) := by rw [hwv]; exact Grew.cell Hal.out c1
        have x0 : wv.cell? ⟨w.heap.size, 0, none⟩ = some (.int .i64 (m : Int)) := HXv.out.cell rfl
        have x1 : wv.cell? ⟨w.heap.size, 1, none⟩ = some (.int .i64 (k : Int)) := HXv.out.cell rfl
        obtain ⟨y0, y1, y2, y3, y4, y5⟩ := six_at HVv.out
        clear hwv c0 c2 c3 c4 c5 c6 c7 Hal
        simp only at y0 y1 y2 y3 y4 y5
        change Code.wp _ _ _ _ (wr.alloc (.cells (votCells ⟨⟨l, be, bc, bp⟩, 0, 1⟩).toArray 55))
        rw [← HWV.out]
        by_cases q0 : f < 0
        · as_aux_lemma =>
          skip
          have t0 : decide (f < 0) = true := decide_eq_true q0
          skip
          go_wp2_with (fail)
          have hex := Grew.all wv
          refine wp_region_grew (by kernel_rfl) (by kernel_rfl) ?_
          repeat (first | go_big_quiet_skip | (go_big_quiet_want; first | (refine quiet_load_cell 3 _ rfl _ rfl _ _ Try.underlying3 rfl (fun W hW => Grew.cell hW c1) ?_; simp only [Act.put, List.setIfInBounds_toArray, List.set_cons_succ, List.set_cons_zero]; go_big_quiet_on) | (refine quiet_load_cell 3 _ rfl _ rfl _ _ Try.underlying3 rfl (fun W hW => Grew.cell hW x1) ?_; simp only [Act.put, List.setIfInBounds_toArray, List.set_cons_succ, List.set_cons_zero]; go_big_quiet_on) | (refine quiet_load_cell 3 _ rfl _ rfl _ _ Try.underlying3 rfl (fun W hW => Grew.cell hW x0) ?_; simp only [Act.put, List.setIfInBounds_toArray, List.set_cons_succ, List.set_cons_zero]; go_big_quiet_on) | (refine quiet_load_cell 3 _ rfl _ rfl _ _ Try.underlying3 rfl (fun W hW => Grew.cell hW y0) ?_; simp only [Act.put, List.setIfInBounds_toArray, List.set_cons_succ, List.set_cons_zero]; go_big_quiet_on) | (refine quiet_load_cell 3 _ rfl _ rfl _ _ Try.underlying3 rfl (fun W hW => Grew.cell hW y3) ?_; simp only [Act.put, List.setIfInBounds_toArray, List.set_cons_succ, List.set_cons_zero]; go_big_quiet_on) | (refine quiet_load_cell 3 _ rfl _ rfl _ _ Try.underlying3 rfl (fun W hW => Grew.cell hW y1) ?_; simp only [Act.put, List.setIfInBounds_toArray, List.set_cons_succ, List.set_cons_zero]; go_big_quiet_on) | (refine quiet_load_cell 3 _ rfl _ rfl _ _ Try.underlying3 rfl (fun W hW => Grew.cell hW y2) ?_; simp only [Act.put, List.setIfInBounds_toArray, List.set_cons_succ, List.set_cons_zero]; go_big_quiet_on) | (go_big_quiet_op; first | go_big_quiet_on | (apply Exists.intro; refine ⟨fun W hW => ?_, ?_⟩; (first | exact rfl); go_big_quiet_on))))
          refine wpQuiet_nil ?_
          intro wq hw4
          clear hex
          have HPq := Lib.hid (BlkAt.grew HPv.out hw4)
          have HKq := Lib.hid (BlkAt.grew HKv.out hw4)
          have HXq := Lib.hid (BlkAt.grew HXv.out hw4)
          have Hbq := Lib.hid (Hbv.out.trans (Below.mono (show Below wv.heap.size wv wq from hw4) Hbv.out.size))
          clear hw4
          go_wp2
          go_roundw
          case rel => exact ⟨i + 1, p, K, by go_num, by omega, by omega, Hhalf.out, HPm.out, HPn.out, HPq.out, HKq.out, HXq.out, Hbq.out⟩
          case measure => simp [intOf]; omega
        by_cases q1 : (k : Int) ≤ f
        · as_aux_lemma =>
          have t0 : decide (f < 0) = false := decide_eq_false q0
          have t1 : decide ((k : Int) ≤ f) = true := decide_eq_true q1
          skip
          go_wp2_with (fail)
          have hex := Grew.all wv
          refine wp_region_grew (by kernel_rfl) (by kernel_rfl) ?_
          repeat (first | go_big_quiet_skip | (go_big_quiet_want; first | (refine quiet_load_cell 3 _ rfl _ rfl _ _ Try.underlying3 rfl (fun W hW => Grew.cell hW c1) ?_; simp only [Act.put, List.setIfInBounds_toArray, List.set_cons_succ, List.set_cons_zero]; go_big_quiet_on) | (refine quiet_load_cell 3 _ rfl _ rfl _ _ Try.underlying3 rfl (fun W hW => Grew.cell hW x1) ?_; simp only [Act.put, List.setIfInBounds_toArray, List.set_cons_succ, List.set_cons_zero]; go_big_quiet_on) | (refine quiet_load_cell 3 _ rfl _ rfl _ _ Try.underlying3 rfl (fun W hW => Grew.cell hW x0) ?_; simp only [Act.put, List.setIfInBounds_toArray, List.set_cons_succ, List.set_cons_zero]; go_big_quiet_on) | (refine quiet_load_cell 3 _ rfl _ rfl _ _ Try.underlying3 rfl (fun W hW => Grew.cell hW y0) ?_; simp only [Act.put, List.setIfInBounds_toArray, List.set_cons_succ, List.set_cons_zero]; go_big_quiet_on) | (refine quiet_load_cell 3 _ rfl _ rfl _ _ Try.underlying3 rfl (fun W hW => Grew.cell hW y3) ?_; simp only [Act.put, List.setIfInBounds_toArray, List.set_cons_succ, List.set_cons_zero]; go_big_quiet_on) | (refine quiet_load_cell 3 _ rfl _ rfl _ _ Try.underlying3 rfl (fun W hW => Grew.cell hW y1) ?_; simp only [Act.put, List.setIfInBounds_toArray, List.set_cons_succ, List.set_cons_zero]; go_big_quiet_on) | (refine quiet_load_cell 3 _ rfl _ rfl _ _ Try.underlying3 rfl (fun W hW => Grew.cell hW y2) ?_; simp only [Act.put, List.setIfInBounds_toArray, List.set_cons_succ, List.set_cons_zero]; go_big_quiet_on) | (go_big_quiet_op; first | go_big_quiet_on | (apply Exists.intro; refine ⟨fun W hW => ?_, ?_⟩; (first | exact rfl); go_big_quiet_on))))
          refine wpQuiet_nil ?_
          intro wq hw4
          clear hex
          have HPq := Lib.hid (BlkAt.grew HPv.out hw4)
          have HKq := Lib.hid (BlkAt.grew HKv.out hw4)
          have HXq := Lib.hid (BlkAt.grew HXv.out hw4)
          have Hbq := Lib.hid (Hbv.out.trans (Below.mono (show Below wv.heap.size wv wq from hw4) Hbv.out.size))
          clear hw4
          go_wp2
          go_roundw
          case rel => exact ⟨i + 1, p, K, by go_num, by omega, by omega, Hhalf.out, HPm.out, HPn.out, HPq.out, HKq.out, HXq.out, Hbq.out⟩
          case measure => simp [intOf]; omega
        by_cases q2 : f = (m : Int)
        · as_aux_lemma =>
          have t0 : decide (f < 0) = false := decide_eq_false q0
          have t1 : decide ((k : Int) ≤ f) = false := decide_eq_false q1
          have t2 : ((f : Int) == (m : Int)) = true := by rw [beq_iff_eq]; exact q2
          clear q2
          go_wp2_with (fail)
          have hex := Grew.all wv
          refine wp_region_grew (by kernel_rfl) (by kernel_rfl) ?_
          repeat (first | go_big_quiet_skip | (go_big_quiet_want; first | (refine quiet_load_cell 3 _ rfl _ rfl _ _ Try.underlying3 rfl (fun W hW => Grew.cell hW c1) ?_; simp only [Act.put, List.setIfInBounds_toArray, List.set_cons_succ, List.set_cons_zero]; go_big_quiet_on) | (refine quiet_load_cell 3 _ rfl _ rfl _ _ Try.underlying3 rfl (fun W hW => Grew.cell hW x1) ?_; simp only [Act.put, List.setIfInBounds_toArray, List.set_cons_succ, List.set_cons_zero]; go_big_quiet_on) | (refine quiet_load_cell 3 _ rfl _ rfl _ _ Try.underlying3 rfl (fun W hW => Grew.cell hW x0) ?_; simp only [Act.put, List.setIfInBounds_toArray, List.set_cons_succ, List.set_cons_zero]; go_big_quiet_on) | (refine quiet_load_cell 3 _ rfl _ rfl _ _ Try.underlying3 rfl (fun W hW => Grew.cell hW y0) ?_; simp only [Act.put, List.setIfInBounds_toArray, List.set_cons_succ, List.set_cons_zero]; go_big_quiet_on) | (refine quiet_load_cell 3 _ rfl _ rfl _ _ Try.underlying3 rfl (fun W hW => Grew.cell hW y3) ?_; simp only [Act.put, List.setIfInBounds_toArray, List.set_cons_succ, List.set_cons_zero]; go_big_quiet_on) | (refine quiet_load_cell 3 _ rfl _ rfl _ _ Try.underlying3 rfl (fun W hW => Grew.cell hW y1) ?_; simp only [Act.put, List.setIfInBounds_toArray, List.set_cons_succ, List.set_cons_zero]; go_big_quiet_on) | (refine quiet_load_cell 3 _ rfl _ rfl _ _ Try.underlying3 rfl (fun W hW => Grew.cell hW y2) ?_; simp only [Act.put, List.setIfInBounds_toArray, List.set_cons_succ, List.set_cons_zero]; go_big_quiet_on) | (go_big_quiet_op; first | go_big_quiet_on | (apply Exists.intro; refine ⟨fun W hW => ?_, ?_⟩; (first | exact rfl); go_big_quiet_on))))
          refine wpQuiet_nil ?_
          intro wq hw4
          clear hex
          have HPq := Lib.hid (BlkAt.grew HPv.out hw4)
          have HKq := Lib.hid (BlkAt.grew HKv.out hw4)
          have HXq := Lib.hid (BlkAt.grew HXv.out hw4)
          have Hbq := Lib.hid (Hbv.out.trans (Below.mono (show Below wv.heap.size wv wq from hw4) Hbv.out.size))
          clear hw4
          go_wp2
          go_roundw
          case rel => exact ⟨i + 1, p, K, by go_num, by omega, by omega, Hhalf.out, HPm.out, HPn.out, HPq.out, HKq.out, HXq.out, Hbq.out⟩
          case measure => simp [intOf]; omega
        by_cases q3 : l < 0
        · as_aux_lemma =>
          have t0 : decide (f < 0) = false := decide_eq_false q0
          have t1 : decide ((k : Int) ≤ f) = false := decide_eq_false q1
          have t2 : ((f : Int) == (m : Int)) = false := by rw [beq_eq_false_iff_ne]; exact q2
          have t3 : decide (l < 0) = true := decide_eq_true q3
          skip
          go_wp2_with (fail)
          have hex := Grew.all wv
          refine wp_region_grew (by kernel_rfl) (by kernel_rfl) ?_
          repeat (first | go_big_quiet_skip | (go_big_quiet_want; first | (refine quiet_load_cell 3 _ rfl _ rfl _ _ Try.underlying3 rfl (fun W hW => Grew.cell hW c1) ?_; simp only [Act.put, List.setIfInBounds_toArray, List.set_cons_succ, List.set_cons_zero]; go_big_quiet_on) | (refine quiet_load_cell 3 _ rfl _ rfl _ _ Try.underlying3 rfl (fun W hW => Grew.cell hW x1) ?_; simp only [Act.put, List.setIfInBounds_toArray, List.set_cons_succ, List.set_cons_zero]; go_big_quiet_on) | (refine quiet_load_cell 3 _ rfl _ rfl _ _ Try.underlying3 rfl (fun W hW => Grew.cell hW x0) ?_; simp only [Act.put, List.setIfInBounds_toArray, List.set_cons_succ, List.set_cons_zero]; go_big_quiet_on) | (refine quiet_load_cell 3 _ rfl _ rfl _ _ Try.underlying3 rfl (fun W hW => Grew.cell hW y0) ?_; simp only [Act.put, List.setIfInBounds_toArray, List.set_cons_succ, List.set_cons_zero]; go_big_quiet_on) | (refine quiet_load_cell 3 _ rfl _ rfl _ _ Try.underlying3 rfl (fun W hW => Grew.cell hW y3) ?_; simp only [Act.put, List.setIfInBounds_toArray, List.set_cons_succ, List.set_cons_zero]; go_big_quiet_on) | (refine quiet_load_cell 3 _ rfl _ rfl _ _ Try.underlying3 rfl (fun W hW => Grew.cell hW y1) ?_; simp only [Act.put, List.setIfInBounds_toArray, List.set_cons_succ, List.set_cons_zero]; go_big_quiet_on) | (refine quiet_load_cell 3 _ rfl _ rfl _ _ Try.underlying3 rfl (fun W hW => Grew.cell hW y2) ?_; simp only [Act.put, List.setIfInBounds_toArray, List.set_cons_succ, List.set_cons_zero]; go_big_quiet_on) | (go_big_quiet_op; first | go_big_quiet_on | (apply Exists.intro; refine ⟨fun W hW => ?_, ?_⟩; (first | exact rfl); go_big_quiet_on))))
          refine wpQuiet_nil ?_
          intro wq hw4
          clear hex
          have HPq := Lib.hid (BlkAt.grew HPv.out hw4)
          have HKq := Lib.hid (BlkAt.grew HKv.out hw4)
          have HXq := Lib.hid (BlkAt.grew HXv.out hw4)
          have Hbq := Lib.hid (Hbv.out.trans (Below.mono (show Below wv.heap.size wv wq from hw4) Hbv.out.size))
          clear hw4
          go_wp2
          go_roundw
          case rel => exact ⟨i + 1, p, K, by go_num, by omega, by omega, Hhalf.out, HPm.out, HPn.out, HPq.out, HKq.out, HXq.out, Hbq.out⟩
          case measure => simp [intOf]; omega
        by_cases q4 : (k : Int) ≤ l
        · as_aux_lemma =>
          have t0 : decide (f < 0) = false := decide_eq_false q0
          have t1 : decide ((k : Int) ≤ f) = false := decide_eq_false q1
          have t2 : ((f : Int) == (m : Int)) = false := by rw [beq_eq_false_iff_ne]; exact q2
          have t3 : decide (l < 0) = false := decide_eq_false q3
          have t4 : decide ((k : Int) ≤ l) = true := decide_eq_true q4
          skip
          go_wp2_with (fail)
          have hex := Grew.all wv
          refine wp_region_grew (by kernel_rfl) (by kernel_rfl) ?_
          repeat (first | go_big_quiet_skip | (go_big_quiet_want; first | (refine quiet_load_cell 3 _ rfl _ rfl _ _ Try.underlying3 rfl (fun W hW => Grew.cell hW c1) ?_; simp only [Act.put, List.setIfInBounds_toArray, List.set_cons_succ, List.set_cons_zero]; go_big_quiet_on) | (refine quiet_load_cell 3 _ rfl _ rfl _ _ Try.underlying3 rfl (fun W hW => Grew.cell hW x1) ?_; simp only [Act.put, List.setIfInBounds_toArray, List.set_cons_succ, List.set_cons_zero]; go_big_quiet_on) | (refine quiet_load_cell 3 _ rfl _ rfl _ _ Try.underlying3 rfl (fun W hW => Grew.cell hW x0) ?_; simp only [Act.put, List.setIfInBounds_toArray, List.set_cons_succ, List.set_cons_zero]; go_big_quiet_on) | (refine quiet_load_cell 3 _ rfl _ rfl _ _ Try.underlying3 rfl (fun W hW => Grew.cell hW y0) ?_; simp only [Act.put, List.setIfInBounds_toArray, List.set_cons_succ, List.set_cons_zero]; go_big_quiet_on) | (refine quiet_load_cell 3 _ rfl _ rfl _ _ Try.underlying3 rfl (fun W hW => Grew.cell hW y3) ?_; simp only [Act.put, List.setIfInBounds_toArray, List.set_cons_succ, List.set_cons_zero]; go_big_quiet_on) | (refine quiet_load_cell 3 _ rfl _ rfl _ _ Try.underlying3 rfl (fun W hW => Grew.cell hW y1) ?_; simp only [Act.put, List.setIfInBounds_toArray, List.set_cons_succ, List.set_cons_zero]; go_big_quiet_on) | (refine quiet_load_cell 3 _ rfl _ rfl _ _ Try.underlying3 rfl (fun W hW => Grew.cell hW y2) ?_; simp only [Act.put, List.setIfInBounds_toArray, List.set_cons_succ, List.set_cons_zero]; go_big_quiet_on) | (go_big_quiet_op; first | go_big_quiet_on | (apply Exists.intro; refine ⟨fun W hW => ?_, ?_⟩; (first | exact rfl); go_big_quiet_on))))
          refine wpQuiet_nil ?_
          intro wq hw4
          clear hex
          have HPq := Lib.hid (BlkAt.grew HPv.out hw4)
          have HKq := Lib.hid (BlkAt.grew HKv.out hw4)
          have HXq := Lib.hid (BlkAt.grew HXv.out hw4)
          have Hbq := Lib.hid (Hbv.out.trans (Below.mono (show Below wv.heap.size wv wq from hw4) Hbv.out.size))
          clear hw4
          go_wp2
          go_roundw
          case rel => exact ⟨i + 1, p, K, by go_num, by omega, by omega, Hhalf.out, HPm.out, HPn.out, HPq.out, HKq.out, HXq.out, Hbq.out⟩
          case measure => simp [intOf]; omega
        by_cases q5 : bp < 0
        · as_aux_lemma =>
          have t0 : decide (f < 0) = false := decide_eq_false q0
          have t1 : decide ((k : Int) ≤ f) = false := decide_eq_false q1
          have t2 : ((f : Int) == (m : Int)) = false := by rw [beq_eq_false_iff_ne]; exact q2
          have t3 : decide (l < 0) = false := decide_eq_false q3
          have t4 : decide ((k : Int) ≤ l) = false := decide_eq_false q4
          have t5 : decide (bp < 0) = true := decide_eq_true q5
          skip
          go_wp2_with (fail)
          have hex := Grew.all wv
          refine wp_region_grew (by kernel_rfl) (by kernel_rfl) ?_
          repeat (first | go_big_quiet_skip | (go_big_quiet_want; first | (refine quiet_load_cell 3 _ rfl _ rfl _ _ Try.underlying3 rfl (fun W hW => Grew.cell hW c1) ?_; simp only [Act.put, List.setIfInBounds_toArray, List.set_cons_succ, List.set_cons_zero]; go_big_quiet_on) | (refine quiet_load_cell 3 _ rfl _ rfl _ _ Try.underlying3 rfl (fun W hW => Grew.cell hW x1) ?_; simp only [Act.put, List.setIfInBounds_toArray, List.set_cons_succ, List.set_cons_zero]; go_big_quiet_on) | (refine quiet_load_cell 3 _ rfl _ rfl _ _ Try.underlying3 rfl (fun W hW => Grew.cell hW x0) ?_; simp only [Act.put, List.setIfInBounds_toArray, List.set_cons_succ, List.set_cons_zero]; go_big_quiet_on) | (refine quiet_load_cell 3 _ rfl _ rfl _ _ Try.underlying3 rfl (fun W hW => Grew.cell hW y0) ?_; simp only [Act.put, List.setIfInBounds_toArray, List.set_cons_succ, List.set_cons_zero]; go_big_quiet_on) | (refine quiet_load_cell 3 _ rfl _ rfl _ _ Try.underlying3 rfl (fun W hW => Grew.cell hW y3) ?_; simp only [Act.put, List.setIfInBounds_toArray, List.set_cons_succ, List.set_cons_zero]; go_big_quiet_on) | (refine quiet_load_cell 3 _ rfl _ rfl _ _ Try.underlying3 rfl (fun W hW => Grew.cell hW y1) ?_; simp only [Act.put, List.setIfInBounds_toArray, List.set_cons_succ, List.set_cons_zero]; go_big_quiet_on) | (refine quiet_load_cell 3 _ rfl _ rfl _ _ Try.underlying3 rfl (fun W hW => Grew.cell hW y2) ?_; simp only [Act.put, List.setIfInBounds_toArray, List.set_cons_succ, List.set_cons_zero]; go_big_quiet_on) | (go_big_quiet_op; first | go_big_quiet_on | (apply Exists.intro; refine ⟨fun W hW => ?_, ?_⟩; (first | exact rfl); go_big_quiet_on))))
          refine wpQuiet_nil ?_
          intro wq hw4
          clear hex
          have HPq := Lib.hid (BlkAt.grew HPv.out hw4)
          have HKq := Lib.hid (BlkAt.grew HKv.out hw4)
          have HXq := Lib.hid (BlkAt.grew HXv.out hw4)
          have Hbq := Lib.hid (Hbv.out.trans (Below.mono (show Below wv.heap.size wv wq from hw4) Hbv.out.size))
          clear hw4
          go_wp2
          go_roundw
          case rel => exact ⟨i + 1, p, K, by go_num, by omega, by omega, Hhalf.out, HPm.out, HPn.out, HPq.out, HKq.out, HXq.out, Hbq.out⟩
          case measure => simp [intOf]; omega
        by_cases q6 : be < 0
        · as_aux_lemma =>
          have t0 : decide (f < 0) = false := decide_eq_false q0
          have t1 : decide ((k : Int) ≤ f) = false := decide_eq_false q1
          have t2 : ((f : Int) == (m : Int)) = false := by rw [beq_eq_false_iff_ne]; exact q2
          have t3 : decide (l < 0) = false := decide_eq_false q3
          have t4 : decide ((k : Int) ≤ l) = false := decide_eq_false q4
          have t5 : decide (bp < 0) = false := decide_eq_false q5
          have t6 : decide (be < 0) = true := decide_eq_true q6
          skip
          go_wp2_with (fail)
          have hex := Grew.all wv
          refine wp_region_grew (by kernel_rfl) (by kernel_rfl) ?_
          repeat (first | go_big_quiet_skip | (go_big_quiet_want; first | (refine quiet_load_cell 3 _ rfl _ rfl _ _ Try.underlying3 rfl (fun W hW => Grew.cell hW c1) ?_; simp only [Act.put, List.setIfInBounds_toArray, List.set_cons_succ, List.set_cons_zero]; go_big_quiet_on) | (refine quiet_load_cell 3 _ rfl _ rfl _ _ Try.underlying3 rfl (fun W hW => Grew.cell hW x1) ?_; simp only [Act.put, List.setIfInBounds_toArray, List.set_cons_succ, List.set_cons_zero]; go_big_quiet_on) | (refine quiet_load_cell 3 _ rfl _ rfl _ _ Try.underlying3 rfl (fun W hW => Grew.cell hW x0) ?_; simp only [Act.put, List.setIfInBounds_toArray, List.set_cons_succ, List.set_cons_zero]; go_big_quiet_on) | (refine quiet_load_cell 3 _ rfl _ rfl _ _ Try.underlying3 rfl (fun W hW => Grew.cell hW y0) ?_; simp only [Act.put, List.setIfInBounds_toArray, List.set_cons_succ, List.set_cons_zero]; go_big_quiet_on) | (refine quiet_load_cell 3 _ rfl _ rfl _ _ Try.underlying3 rfl (fun W hW => Grew.cell hW y3) ?_; simp only [Act.put, List.setIfInBounds_toArray, List.set_cons_succ, List.set_cons_zero]; go_big_quiet_on) | (refine quiet_load_cell 3 _ rfl _ rfl _ _ Try.underlying3 rfl (fun W hW => Grew.cell hW y1) ?_; simp only [Act.put, List.setIfInBounds_toArray, List.set_cons_succ, List.set_cons_zero]; go_big_quiet_on) | (refine quiet_load_cell 3 _ rfl _ rfl _ _ Try.underlying3 rfl (fun W hW => Grew.cell hW y2) ?_; simp only [Act.put, List.setIfInBounds_toArray, List.set_cons_succ, List.set_cons_zero]; go_big_quiet_on) | (go_big_quiet_op; first | go_big_quiet_on | (apply Exists.intro; refine ⟨fun W hW => ?_, ?_⟩; (first | exact rfl); go_big_quiet_on))))
          refine wpQuiet_nil ?_
          intro wq hw4
          clear hex
          have HPq := Lib.hid (BlkAt.grew HPv.out hw4)
          have HKq := Lib.hid (BlkAt.grew HKv.out hw4)
          have HXq := Lib.hid (BlkAt.grew HXv.out hw4)
          have Hbq := Lib.hid (Hbv.out.trans (Below.mono (show Below wv.heap.size wv wq from hw4) Hbv.out.size))
          clear hw4
          go_wp2
          go_roundw
          case rel => exact ⟨i + 1, p, K, by go_num, by omega, by omega, Hhalf.out, HPm.out, HPn.out, HPq.out, HKq.out, HXq.out, Hbq.out⟩
          case measure => simp [intOf]; omega
        by_cases q7 : bc < 0
        · as_aux_lemma =>
          have t0 : decide (f < 0) = false := decide_eq_false q0
          have t1 : decide ((k : Int) ≤ f) = false := decide_eq_false q1
          have t2 : ((f : Int) == (m : Int)) = false := by rw [beq_eq_false_iff_ne]; exact q2
          have t3 : decide (l < 0) = false := decide_eq_false q3
          have t4 : decide ((k : Int) ≤ l) = false := decide_eq_false q4
          have t5 : decide (bp < 0) = false := decide_eq_false q5
          have t6 : decide (be < 0) = false := decide_eq_false q6
          have t7 : decide (bc < 0) = true := decide_eq_true q7
          skip
          go_wp2_with (fail)
          have hex := Grew.all wv
          refine wp_region_grew (by kernel_rfl) (by kernel_rfl) ?_
          repeat (first | go_big_quiet_skip | (go_big_quiet_want; first | (refine quiet_load_cell 3 _ rfl _ rfl _ _ Try.underlying3 rfl (fun W hW => Grew.cell hW c1) ?_; simp only [Act.put, List.setIfInBounds_toArray, List.set_cons_succ, List.set_cons_zero]; go_big_quiet_on) | (refine quiet_load_cell 3 _ rfl _ rfl _ _ Try.underlying3 rfl (fun W hW => Grew.cell hW x1) ?_; simp only [Act.put, List.setIfInBounds_toArray, List.set_cons_succ, List.set_cons_zero]; go_big_quiet_on) | (refine quiet_load_cell 3 _ rfl _ rfl _ _ Try.underlying3 rfl (fun W hW => Grew.cell hW x0) ?_; simp only [Act.put, List.setIfInBounds_toArray, List.set_cons_succ, List.set_cons_zero]; go_big_quiet_on) | (refine quiet_load_cell 3 _ rfl _ rfl _ _ Try.underlying3 rfl (fun W hW => Grew.cell hW y0) ?_; simp only [Act.put, List.setIfInBounds_toArray, List.set_cons_succ, List.set_cons_zero]; go_big_quiet_on) | (refine quiet_load_cell 3 _ rfl _ rfl _ _ Try.underlying3 rfl (fun W hW => Grew.cell hW y3) ?_; simp only [Act.put, List.setIfInBounds_toArray, List.set_cons_succ, List.set_cons_zero]; go_big_quiet_on) | (refine quiet_load_cell 3 _ rfl _ rfl _ _ Try.underlying3 rfl (fun W hW => Grew.cell hW y1) ?_; simp only [Act.put, List.setIfInBounds_toArray, List.set_cons_succ, List.set_cons_zero]; go_big_quiet_on) | (refine quiet_load_cell 3 _ rfl _ rfl _ _ Try.underlying3 rfl (fun W hW => Grew.cell hW y2) ?_; simp only [Act.put, List.setIfInBounds_toArray, List.set_cons_succ, List.set_cons_zero]; go_big_quiet_on) | (go_big_quiet_op; first | go_big_quiet_on | (apply Exists.intro; refine ⟨fun W hW => ?_, ?_⟩; (first | exact rfl); go_big_quiet_on))))
          refine wpQuiet_nil ?_
          intro wq hw4
          clear hex
          have HPq := Lib.hid (BlkAt.grew HPv.out hw4)
          have HKq := Lib.hid (BlkAt.grew HKv.out hw4)
          have HXq := Lib.hid (BlkAt.grew HXv.out hw4)
          have Hbq := Lib.hid (Hbv.out.trans (Below.mono (show Below wv.heap.size wv wq from hw4) Hbv.out.size))
          clear hw4
          go_wp2
          go_roundw
          case rel => exact ⟨i + 1, p, K, by go_num, by omega, by omega, Hhalf.out, HPm.out, HPn.out, HPq.out, HKq.out, HXq.out, Hbq.out⟩
          case measure => simp [intOf]; omega
        have t0 : decide (f < 0) = false := decide_eq_false q0
        have t1 : decide ((k : Int) ≤ f) = false := decide_eq_false q1
        have t2 : ((f : Int) == (m : Int)) = false := by rw [beq_eq_false_iff_ne]; exact q2
        have t3 : decide (l < 0) = false := decide_eq_false q3
        have t4 : decide ((k : Int) ≤ l) = false := decide_eq_false q4
        have t5 : decide (bp < 0) = false := decide_eq_false q5
        have t6 : decide (be < 0) = false := decide_eq_false q6
        have t7 : decide (bc < 0) = false := decide_eq_false q7
        obtain ⟨n, hnf⟩ : ∃ n : Nat, f = (n : Int) := ⟨f.toNat, by omega⟩
        have hnk : n < k := by omega
        have hnm : n ≠ m := by omega
        have h7n : n < 7 := by omega
        subst hnf
        have t1' : decide (k ≤ n) = false := decide_eq_false (by omega)
        have hok : okV p (n : Int) ⟨⟨l, be, bc, bp⟩, 0, 1⟩ := by
          have hm' := HPm.out
          have hk' := HPn.out
          refine ⟨?_, ?_, ?_, by simp, by simp, by simp, by show (0 : Int) ≤ bp; omega, by show (0 : Int) ≤ be; omega, by show (0 : Int) ≤ bc; omega⟩
          · unfold nodeB; rw [decide_eq_true (by omega), decide_eq_true (by rw [hk']; omega)]; rfl
          · rw [hm']; exact q2
          · unfold nodeB; rw [decide_eq_true (by show 0 ≤ l; omega), decide_eq_true (by show l < _; rw [hk']; omega)]; rfl
        have Hhalf2 := Lib.hid (half_step p K Hhalf.out n ⟨l, be, bc, bp⟩ hok)
        have HTk := Lib.hid (fun W hW => take_any g p Hhalf.out.fit (n : Int) ⟨⟨l, be, bc, bp⟩, 0, 1⟩ W hW)
        obtain ⟨p2, hp2⟩ : ∃ p2, p2 = (stepP p (n : Int) ⟨⟨l, be, bc, bp⟩, 0, 1⟩).1 := ⟨_, rfl⟩
        have hme2 : Hid (p2.me = m ∧ p2.nodes = k) := by
          show _ ∧ _
          rw [hp2, (step_same p _ _).1, (step_same p _ _).2]
          exact ⟨HPm.out, HPn.out⟩
        rw [← hp2] at HTk Hhalf2
        unfold ptrV votV at HTk
        simp only at HTk
        clear hp2 hok q0 q1 q2 q3 q4 q5 q6 q7
        go_wp2_with (fail)
        have hex := Grew.all wv
        refine wp_region_grew (by kernel_rfl) (by kernel_rfl) ?_
        repeat (first | go_big_quiet_skip | (go_big_quiet_want; first | (refine quiet_load_cell 3 _ rfl _ rfl _ _ Try.underlying3 rfl (fun W hW => Grew.cell hW c1) ?_; simp only [Act.put, List.setIfInBounds_toArray, List.set_cons_succ, List.set_cons_zero]; go_big_quiet_on) | (refine quiet_load_cell 3 _ rfl _ rfl _ _ Try.underlying3 rfl (fun W hW => Grew.cell hW x1) ?_; simp only [Act.put, List.setIfInBounds_toArray, List.set_cons_succ, List.set_cons_zero]; go_big_quiet_on) | (refine quiet_load_cell 3 _ rfl _ rfl _ _ Try.underlying3 rfl (fun W hW => Grew.cell hW x0) ?_; simp only [Act.put, List.setIfInBounds_toArray, List.set_cons_succ, List.set_cons_zero]; go_big_quiet_on) | (refine quiet_load_cell 3 _ rfl _ rfl _ _ Try.underlying3 rfl (fun W hW => Grew.cell hW y0) ?_; simp only [Act.put, List.setIfInBounds_toArray, List.set_cons_succ, List.set_cons_zero]; go_big_quiet_on) | (refine quiet_load_cell 3 _ rfl _ rfl _ _ Try.underlying3 rfl (fun W hW => Grew.cell hW y3) ?_; simp only [Act.put, List.setIfInBounds_toArray, List.set_cons_succ, List.set_cons_zero]; go_big_quiet_on) | (refine quiet_load_cell 3 _ rfl _ rfl _ _ Try.underlying3 rfl (fun W hW => Grew.cell hW y1) ?_; simp only [Act.put, List.setIfInBounds_toArray, List.set_cons_succ, List.set_cons_zero]; go_big_quiet_on) | (refine quiet_load_cell 3 _ rfl _ rfl _ _ Try.underlying3 rfl (fun W hW => Grew.cell hW y2) ?_; simp only [Act.put, List.setIfInBounds_toArray, List.set_cons_succ, List.set_cons_zero]; go_big_quiet_on) | (go_big_quiet_op; first | go_big_quiet_on | (apply Exists.intro; refine ⟨fun W hW => ?_, ?_⟩; (first | exact rfl); go_big_quiet_on))))
        refine wpQuiet_nil ?_
        intro wq hw4
        clear hex
        have HPq := Lib.hid (BlkAt.grew HPv.out hw4)
        have HKq := Lib.hid (BlkAt.grew HKv.out hw4)
        have HXq := Lib.hid (BlkAt.grew HXv.out hw4)
        have HVq := Lib.hid (BlkAt.grew HVv.out hw4)
        have c1 := Grew.cell hw4 c1
        have Hc1 := Lib.hid c1
        have Hbq := Lib.hid (Hbv.out.trans (Below.mono (show Below wv.heap.size wv wq from hw4) Hbv.out.size))
        obtain ⟨y0, y1, y2, y3, y4, y5⟩ := six_at HVq.out
        have HPqd : Hid (PollAt g p wq.drew) := BlkAt.drew HPq.out
        clear hw4 x0 x1
        go_wp2_with (fail)
        go_region_with (first | (go_at_call 28; (with_reducible refine (HTk.out _ HPqd.out).mono ?_); rintro e w3 ⟨rfl, hP3, hG3⟩))
        all_goals
          have hne : ∀ B, B ≠ g → some B ≠ some g := fun B h hh => h (Option.some.inj hh)
          have HP3 := Lib.hid hP3
          have Hb3 := Lib.hid (grown_new (Below.drew Hbq.out) hG3 hgw)
          have HK3 := BlkAt.grown (BlkAt.drew HKq.out) hG3 (hne _ hLg)
          have HX3 := BlkAt.grown (BlkAt.drew HXq.out) hG3 (hne _ (by omega))
          have HV3 := BlkAt.grown (BlkAt.drew HVq.out) hG3 (hne _ (by omega))
          have c1 : w3.cell? ⟨bb, off + i * 8 + 1, none⟩ = some (.int .i64 (n : Int)) := hG3.cell (show wq.drew.cell? _ = _ from Hc1.out) (hne bb (by omega))
          obtain ⟨y0, y1, y2, y3, y4, y5⟩ := six_at HV3
          have hKl : n < K.length := by rw [Hhalf.out.len]; exact h7n
          have hKc : ∀ j, j < 6 → ∃ u, w3.cell? ⟨GL, n * 6 + j, none⟩ = some u := by
            intro j hj
            have := flat_get votCells 6 votCells_length K n j hKl hj
            obtain ⟨u, hu⟩ : ∃ u, (votCells K[n])[j]? = some u := ⟨(votCells K[n])[j]'(by rw [votCells_length]; exact hj), List.getElem?_eq_getElem _⟩
            exact ⟨u, HK3.cell (by rw [this, hu])⟩
          obtain ⟨u0, z0⟩ := hKc 0 (by omega)
          obtain ⟨u1, z1⟩ := hKc 1 (by omega)
          obtain ⟨u2, z2⟩ := hKc 2 (by omega)
          obtain ⟨u3, z3⟩ := hKc 3 (by omega)
          obtain ⟨u4, z4⟩ := hKc 4 (by omega)
          obtain ⟨u5, z5⟩ := hKc 5 (by omega)
          have hfz : ∀ i, w3.frozen? ⟨GL, i, none⟩ = false := BlkAt.frozen HK3
          rw [Nat.add_zero] at z0
          have HK3h := Lib.hid HK3
          have HX3h := Lib.hid HX3
          clear hP3 hG3 HK3 HX3 HV3 hKc
          go_wp2_with (fail)
          go_region
          go_wp2
          go_roundw
          case rel =>
            have Hset := (show BlkAt GL 56 ((K.set n ⟨⟨l, be, bc, bp⟩, 0, 1⟩).flatMap votCells) (w3.setCells GL (n * 6) (votCells ⟨⟨l, be, bc, bp⟩, 0, 1⟩)) from by
              have := BlkAt.sets (votCells ⟨⟨l, be, bc, bp⟩, 0, 1⟩) HK3h.out (n * 6)
              rwa [setMany_flat votCells 6 votCells_length _ _ _ hKl] at this)
            have HX4 := BlkAt.grown HX3h.out (grown_sets GL (votCells ⟨⟨l, be, bc, bp⟩, 0, 1⟩) w3 (n * 6)) (fun hh => hXL (Option.some.inj hh))
            have HP4 := BlkAt.grown HP3.out (grown_sets GL (votCells ⟨⟨l, be, bc, bp⟩, 0, 1⟩) w3 (n * 6)) (fun hh => hLg (Option.some.inj hh).symm)
            have Hb4 := grown_new Hb3.out (grown_sets GL (votCells ⟨⟨l, be, bc, bp⟩, 0, 1⟩) w3 (n * 6)) hGLw
            simp only [votCells, World.setCells, Nat.add_assoc, Nat.reduceAdd] at Hset HX4 HP4 Hb4
            exact ⟨i + 1, p2, K.set n ⟨⟨l, be, bc, bp⟩, 0, 1⟩, by go_num, by omega, by omega, Hhalf2.out, hme2.out.1, hme2.out.2, BlkAt.drew HP4, BlkAt.drew Hset, BlkAt.drew HX4, Below.drew Hb4⟩
          case measure => simp [intOf]; omega
      · have hd : (decide (i < L.length) = false) ∨ (decide (i < L.length) = true ∧ decide ((i : Int) < 50) = false) := by
          by_cases h2 : i < L.length
          · exact .inr ⟨decide_eq_true h2, decide_eq_false (by omega)⟩
          · exact .inl (decide_eq_false h2)
        clear h
        rcases hd with d0 | ⟨d0, d1⟩
        all_goals
          go_wp2_with (fail)
          go_loopw [10, 11] (fun v10 v11 wr => ∃ (j : Nat), v11 = .int .i64 (j : Int) ∧ j ≤ k ∧ v10 = .int .i64 (1 + (othersN p K j : Int)) ∧ PollAt g p wr ∧ BlkAt GL 56 (K.flatMap votCells) wr ∧ BlkAt w.heap.size 48 (whoCells m k x.z x.ep) wr ∧ Below w.heap.size w wr) (fun _ v11 _ => k - (intOf v11).toNat)
          case atStart => exact ⟨0, rfl, by omega, rfl, HP.out, HK.out, HX.out, Hbr.out⟩
          case round =>
            obtain ⟨j, rfl, hj, rfl, hP5, hK5, hX5, hb5⟩ := hrel
            have HP5 := Lib.hid hP5
            have HK5 := Lib.hid hK5
            have HX5 := Lib.hid hX5
            have Hb5 := Lib.hid hb5
            have x0 : wr.cell? ⟨w.heap.size, 0, none⟩ = some (.int .i64 (m : Int)) := HX5.out.cell rfl
            have x1 : wr.cell? ⟨w.heap.size, 1, none⟩ = some (.int .i64 (k : Int)) := HX5.out.cell rfl
            have hol := othersN_le p K j
            have HVp := Lib.hid (fun W hW => HVo.out g p W hW)
            simp only [voteOf] at HVp
            clear hP5 hK5 hX5 hb5
            by_cases hjk : j < k
            · have hj7 : j < 7 := by omega
              have hjl : j < K.length := by rw [Hhalf.out.len]; exact hj7
              have Hsu := Lib.hid (othersN_succ p K j)
              rw [HPm.out, List.getElem?_eq_getElem hjl] at Hsu
              have HR := Lib.hid (fun (W : World) (hW : Below wr.heap.size wr W) => BlkAt.range (BlkAt.grew HK5.out hW) (j * 6) (votCells K[j]) (fun q hq => flat_get votCells 6 votCells_length K j q hjl hq))
              generalize K[j] = z at *
              unfold votCells at HR
              have hcmp0 := Lib.hid (fun b (hb : decide (z = voteOf p) = b) W => (run_eq_vot z (voteOf p) W).trans (by rw [hb] : _ = Result.ok (Value.bool b) W))
              by_cases hjm : j = m
              · have hs : ¬ (j ≠ m ∧ some z = some (voteOf p)) := fun hh => hh.1 hjm
                rw [if_neg hs] at Hsu
                have t0 : ((j : Int) != (m : Int)) = false := by rw [hjm]; simp
                clear hs hjm hcmp0
                as_aux_lemma =>
                skip
                go_wp2_with (fail)
                have hex := Grew.all wr
                refine wp_region_grew (by kernel_rfl) (by kernel_rfl) ?_
                repeat (first | go_big_quiet_skip | (go_big_quiet_want; first | (refine quiet_load_cell 3 _ rfl _ rfl _ _ Try.underlying3 rfl (fun W hW => Grew.cell hW x0) ?_; simp only [Act.put, List.setIfInBounds_toArray, List.set_cons_succ, List.set_cons_zero]; go_big_quiet_on) | (refine quiet_load_cell 3 _ rfl _ rfl _ _ Try.underlying3 rfl (fun W hW => Grew.cell hW x1) ?_; simp only [Act.put, List.setIfInBounds_toArray, List.set_cons_succ, List.set_cons_zero]; go_big_quiet_on) | (refine quiet_load_mid 55 _ rfl _ _ rfl [.int .i64 z.b.l, .int .i64 z.b.e, .int .i64 z.b.c, .int .i64 z.b.p, .int .i64 z.round, .int .i64 z.state] _ (fun W hW => HR.out W hW) Try.underlying55 rfl (by kernel_rfl) ?_; simp only [Act.put, List.setIfInBounds_toArray, List.set_cons_succ, List.set_cons_zero]; go_big_quiet_on) | (go_big_quiet_op; first | go_big_quiet_on | (apply Exists.intro; refine ⟨fun W hW => ?_, ?_⟩; (first | exact rfl | (go_at_call 29; with_reducible exact Calls.grew hW (HVp.out W (poll_grew HP5.out hW)))); go_big_quiet_on))))
                refine wpQuiet_nil ?_
                intro wq hw4
                have HPq := Lib.hid (BlkAt.grew HP5.out hw4)
                have HKq := Lib.hid (BlkAt.grew HK5.out hw4)
                have HXq := Lib.hid (BlkAt.grew HX5.out hw4)
                have Hbq := Lib.hid (Hb5.out.trans (Below.mono (show Below wr.heap.size wr wq from hw4) Hb5.out.size))
                clear hex hw4
                go_wp2
                go_roundw
                case rel => exact ⟨j + 1, by go_num, by omega, by rw [Hsu.out]; go_num, HPq.out, HKq.out, HXq.out, Hbq.out⟩
                case measure => simp [intOf]; omega
              · have t0 : ((j : Int) != (m : Int)) = true := by rw [bne_iff_ne]; omega
                by_cases hz : z = voteOf p
                · have hs : j ≠ m ∧ some z = some (voteOf p) := ⟨hjm, by rw [hz]⟩
                  rw [if_pos hs] at Hsu
                  have hcmp := hcmp0.out true (decide_eq_true hz)
                  unfold votV voteOf at hcmp
                  simp only at hcmp
                  clear hs hjm hz hcmp0
                  as_aux_lemma =>
                  skip
                  go_wp2_with (fail)
                  have hex := Grew.all wr
                  refine wp_region_grew (by kernel_rfl) (by kernel_rfl) ?_
                  repeat (first | go_big_quiet_skip | (go_big_quiet_want; first | (refine quiet_load_cell 3 _ rfl _ rfl _ _ Try.underlying3 rfl (fun W hW => Grew.cell hW x0) ?_; simp only [Act.put, List.setIfInBounds_toArray, List.set_cons_succ, List.set_cons_zero]; go_big_quiet_on) | (refine quiet_load_cell 3 _ rfl _ rfl _ _ Try.underlying3 rfl (fun W hW => Grew.cell hW x1) ?_; simp only [Act.put, List.setIfInBounds_toArray, List.set_cons_succ, List.set_cons_zero]; go_big_quiet_on) | (refine quiet_load_mid 55 _ rfl _ _ rfl [.int .i64 z.b.l, .int .i64 z.b.e, .int .i64 z.b.c, .int .i64 z.b.p, .int .i64 z.round, .int .i64 z.state] _ (fun W hW => HR.out W hW) Try.underlying55 rfl (by kernel_rfl) ?_; simp only [Act.put, List.setIfInBounds_toArray, List.set_cons_succ, List.set_cons_zero]; go_big_quiet_on) | (go_big_quiet_op; first | go_big_quiet_on | (apply Exists.intro; refine ⟨fun W hW => ?_, ?_⟩; (first | exact rfl | (go_at_call 29; with_reducible exact Calls.grew hW (HVp.out W (poll_grew HP5.out hW)))); go_big_quiet_on))))
                  refine wpQuiet_nil ?_
                  intro wq hw4
                  have HPq := Lib.hid (BlkAt.grew HP5.out hw4)
                  have HKq := Lib.hid (BlkAt.grew HK5.out hw4)
                  have HXq := Lib.hid (BlkAt.grew HX5.out hw4)
                  have Hbq := Lib.hid (Hb5.out.trans (Below.mono (show Below wr.heap.size wr wq from hw4) Hb5.out.size))
                  clear hex hw4
                  go_wp2
                  go_roundw
                  case rel => exact ⟨j + 1, by go_num, by omega, by rw [Hsu.out]; go_num, HPq.out, HKq.out, HXq.out, Hbq.out⟩
                  case measure => simp [intOf]; omega
                · have hs : ¬ (j ≠ m ∧ some z = some (voteOf p)) := fun hh => hz (Option.some.inj hh.2)
                  rw [if_neg hs] at Hsu
                  have hcmp := hcmp0.out false (decide_eq_false hz)
                  unfold votV voteOf at hcmp
                  simp only at hcmp
                  clear hs hjm hz hcmp0
                  as_aux_lemma =>
                  skip
                  go_wp2_with (fail)
                  have hex := Grew.all wr
                  refine wp_region_grew (by kernel_rfl) (by kernel_rfl) ?_
                  repeat (first | go_big_quiet_skip | (go_big_quiet_want; first | (refine quiet_load_cell 3 _ rfl _ rfl _ _ Try.underlying3 rfl (fun W hW => Grew.cell hW x0) ?_; simp only [Act.put, List.setIfInBounds_toArray, List.set_cons_succ, List.set_cons_zero]; go_big_quiet_on) | (refine quiet_load_cell 3 _ rfl _ rfl _ _ Try.underlying3 rfl (fun W hW => Grew.cell hW x1) ?_; simp only [Act.put, List.setIfInBounds_toArray, List.set_cons_succ, List.set_cons_zero]; go_big_quiet_on) | (refine quiet_load_mid 55 _ rfl _ _ rfl [.int .i64 z.b.l, .int .i64 z.b.e, .int .i64 z.b.c, .int .i64 z.b.p, .int .i64 z.round, .int .i64 z.state] _ (fun W hW => HR.out W hW) Try.underlying55 rfl (by kernel_rfl) ?_; simp only [Act.put, List.setIfInBounds_toArray, List.set_cons_succ, List.set_cons_zero]; go_big_quiet_on) | (go_big_quiet_op; first | go_big_quiet_on | (apply Exists.intro; refine ⟨fun W hW => ?_, ?_⟩; (first | exact rfl | (go_at_call 29; with_reducible exact Calls.grew hW (HVp.out W (poll_grew HP5.out hW)))); go_big_quiet_on))))
                  refine wpQuiet_nil ?_
                  intro wq hw4
                  have HPq := Lib.hid (BlkAt.grew HP5.out hw4)
                  have HKq := Lib.hid (BlkAt.grew HK5.out hw4)
                  have HXq := Lib.hid (BlkAt.grew HX5.out hw4)
                  have Hbq := Lib.hid (Hb5.out.trans (Below.mono (show Below wr.heap.size wr wq from hw4) Hb5.out.size))
                  clear hex hw4
                  go_wp2
                  go_roundw
                  case rel => exact ⟨j + 1, by go_num, by omega, by rw [Hsu.out]; go_num, HPq.out, HKq.out, HXq.out, Hbq.out⟩
                  case measure => simp [intOf]; omega
            · obtain rfl : j = k := by omega
              have Hall := Lib.hid (half_all p K Hhalf.out)
              have HWn := Lib.hid (HWo.out g p Hhalf.out.fit (half_noOne p K Hhalf.out) wr HP5.out)
              have HWP : Hid (wonP p = if p.nodes / 2 < votesN p p.nodes then (p.now.l, true) else (0, false)) := by show _ = _; rfl
              rw [HPn.out] at Hall HWP
              rw [Hall.out] at HWP
              by_cases hw : j / 2 < othersN p K j + 1
              · as_aux_lemma =>
                have hdw : decide ((j : Int) / 2 < 1 + (othersN p K j : Int)) = true := decide_eq_true (by omega)
                rw [if_pos hw] at HWP
                rw [HWP.out] at HWn
                simp only at HWn
                have hfd := fun W => run_field_vot p.now.l p.now.e p.now.c p.now.p p.round 1 W
                go_wp2_with (fail)
                refine HWn.out.mono ?_
                rintro e w6 ⟨rfl, hb6⟩
                have HP6 := Lib.hid (show PollAt g p w6 from BlkAt.grew HP5.out hb6)
                have x1 := Grew.cell hb6 x1
                have Hb6 := Lib.hid (Hb5.out.trans (hb6.mono Hb5.out.size))
                have HV6 := Lib.hid (HVp.out w6 HP6.out)
                clear hb6 x0
                go_wp2_with (fail)
                refine HV6.out.mono ?_
                rintro e w7 ⟨rfl, hb7⟩
                have Hb7 := Hb6.out.trans (hb7.mono Hb6.out.size)
                go_wp2_with (fail)
                refine (vawake_any _).mono ?_
                rintro e w9 ⟨rfl, hb9⟩
                go_wp2
                go_ret
                exact ⟨rfl, Hb7.trans (hb9.mono Hb7.size)⟩
              · as_aux_lemma =>
                have hdw : decide ((j : Int) / 2 < 1 + (othersN p K j : Int)) = false := decide_eq_false (by omega)
                rw [if_neg hw] at HWP
                rw [HWP.out] at HWn
                simp only at HWn
                go_wp2_with (fail)
                refine HWn.out.mono ?_
                rintro e w6 ⟨rfl, hb6⟩
                have x1 := Grew.cell hb6 x1
                have Hb6 := Hb5.out.trans (hb6.mono Hb5.out.size)
                clear hb6 x0
                go_wp2_with (fail)
                refine (vawake_any _).mono ?_
                rintro e w9 ⟨rfl, hb9⟩
                go_wp2
                go_ret
                exact ⟨rfl, Hb6.trans (hb9.mono Hb6.size)⟩

/-- THE LAW. -/
theorem voteHalf_walk (W : World) (v0 v1 : Value) (h0 : IsWho v0) (h1 : IsOps W v1) :
    Calls Try.prog 6 #[v0, v1] W fun e w' => e = .returned (.bool true) ∧ Below W.heap.size W w' := by
  obtain ⟨x, rfl⟩ := h0
  obtain ⟨L, a, cap, rfl, h1', h2', h3⟩ := h1
  exact half_any x L a cap W h3 (Nat.le_trans h1' h2')
end Go.Proofs.Ytaahbfcnccmcoaa
