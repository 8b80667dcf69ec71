/- The walk of Won, where nobody is decided. Conditions: as each theorem says. -/
import Derived.Test.YtkidhbflojlmoaaGreatVoteG
namespace Go.Proofs.YtkidhbflojlmoaaGreat
open Go.RowKit

/-- How many of the first k told what it votes for now. -/
def votesN (p : Poll) (k : Nat) : Nat := (p.told.take k).countP fun t => decide (t = (true, p.now))
theorem votesN_step (p : Poll) (k : Nat) (h : k < p.told.length) : votesN p (k + 1) = votesN p k + if p.told[k] = (true, p.now) then 1 else 0 := by
  unfold votesN
  rw [List.take_succ_eq_append_getElem h, List.countP_append]
  by_cases h1 : p.told[k] = (true, p.now) <;> simp [h1]
theorem votesN_le (p : Poll) (k : Nat) : votesN p k ≤ k := by
  unfold votesN
  exact Nat.le_trans List.countP_le_length (by simp; omega)
def noOne (p : Poll) : Prop := ∀ i (h : i < p.dec.length), p.dec[i].2 = 0
def wonP (p : Poll) : Int × Bool := if p.nodes / 2 < votesN p p.nodes then (p.now.l, true) else (0, false)
def zeros7 : List Value := List.replicate 7 (.int .i64 0)
set_option maxRecDepth 100000 in
set_option maxHeartbeats 1600000 in
theorem won_any (g : Nat) (p : Poll) (hp : p.fit) (hno : noOne p) (w : World) (h : PollAt g p w) :
    Calls Tryz.prog 82 #[ptrV g] w fun e w' => e = .returned (.tuple #[.int .i64 (wonP p).1, .bool (wonP p).2]) ∧ Below w.heap.size w w' := by
  have hn1 := hp.nodes1
  have hn7 := hp.nodes7
  have ht := hp.told
  have hd := hp.dec
  have hlt : g < w.heap.size := BlkAt.lt h
  have c1 : w.cell? ⟨g, 1, none⟩ = some (.int .i64 (p.nodes : Int)) := h.cell (by rfl)
  have HP := Lib.hid h
  clear h hp
  unfold ptrV
  go_enter Tryz.func82, Tryz.ntmps82
  go_wp2_with (fail)
  go_loopw [4, 15] (fun v4 v15 wr => ∃ (i : Nat), v15 = .int .i64 (i : Int) ∧ i ≤ p.nodes ∧ v4 = .int .i64 (votesN p i : Int) ∧ Below w.heap.size w wr ∧ BlkAt w.heap.size 173 zeros7 wr) (fun _ v15 _ => p.nodes - (intOf v15).toNat)
  case atStart => exact ⟨0, rfl, by omega, by simp [votesN], alloc_below w _, BlkAt.alloc_new w zeros7 _⟩
  case round =>
    obtain ⟨i, rfl, hi, rfl, hbr, hz⟩ := hrel
    have Hbr := Lib.hid hbr
    have Hz := Lib.hid hz
    have hPr := BlkAt.grew HP.out hbr
    have c1 : wr.cell? ⟨g, 1, none⟩ = some (.int .i64 (p.nodes : Int)) := hPr.cell (by rfl)
    have n7 : wr.cell? ⟨g, 7, none⟩ = some (.int .i64 p.now.l) := hPr.cell (by rfl)
    have HPr := Lib.hid hPr
    have hle := votesN_le p i
    clear hbr hz hPr
    by_cases h : i < p.nodes
    · have hit : i < p.told.length := by omega
      have hid : i < p.dec.length := by omega
      have hi7 : i < 7 := by omega
      have e1 := HPr.out.cell (i := 46 + i * 2 + 1) (by rw [poll_dec p i 1 ht hid (by omega)]; rfl : _ = some (Value.int .i64 p.dec[i].2))
      have e0 := HPr.out.cell (i := 46 + i * 2) (by rw [show 46 + i * 2 = 46 + i * 2 + 0 from rfl, poll_dec p i 0 ht hid (by omega)]; rfl : _ = some (Value.int .i64 p.dec[i].1))
      rw [hno i hid] at e1
      have HR := Lib.hid (fun (W : World) (hW : Below wr.heap.size wr W) => BlkAt.range (BlkAt.grew HPr.out hW) (11 + i * 5) (toldCells p.told[i]) (fun j hj => poll_told p i j hit hj))
      have HN := Lib.hid (fun (W : World) (hW : Below wr.heap.size wr W) => BlkAt.range (BlkAt.grew HPr.out hW) 7 p.now.cells (fun j hj => by match j, hj with | 0, _ => rfl | 1, _ => rfl | 2, _ => rfl | 3, _ => rfl))
      have hcmp := run_eq_told p.told[i] (true, p.now)
      have Hst := Lib.hid (votesN_step p i hit)
      unfold toldCells Bal.cells at hcmp HR
      unfold Bal.cells at HN
      simp only at hcmp
      generalize p.told[i] = t at *
      generalize p.dec[i].1 = d0 at *
      by_cases hq : t = (true, p.now)
      · as_aux_lemma =>
        rw [decide_eq_true hq] at hcmp
        rw [if_pos hq] at Hst
        have Hq := Lib.hid hq
        clear hq
        have hle2 : votesN p i ≤ 7 := by omega
        go_wp2_with (fail)
        have hex := Grew.all wr
        refine wp_region_grew (by kernel_rfl) (by kernel_rfl) ?_
        repeat (first | go_big_quiet_skip | (go_big_quiet_want; first | (refine quiet_load_mid 133 _ rfl _ _ rfl [.bool t.1, .int .i64 t.2.l, .int .i64 t.2.e, .int .i64 t.2.c, .int .i64 t.2.p] _ (fun W hW => HR.out W hW) Tryz.underlying133 rfl (by kernel_rfl) ?_; simp only [Act.put, List.setIfInBounds_toArray, List.set_cons_succ, List.set_cons_zero]; go_big_quiet_on) | (refine quiet_load_mid 131 _ rfl _ _ rfl [.int .i64 p.now.l, .int .i64 p.now.e, .int .i64 p.now.c, .int .i64 p.now.p] _ (fun W hW => HN.out W hW) Tryz.underlying131 rfl (by kernel_rfl) ?_; simp only [Act.put, List.setIfInBounds_toArray, List.set_cons_succ, List.set_cons_zero]; go_big_quiet_on) | (go_big_quiet_op; first | go_big_quiet_on | (apply Exists.intro; refine ⟨fun W hW => ?_, ?_⟩; (first | exact rfl); go_big_quiet_on))))
        refine wpQuiet_nil ?_
        intro wq hw4
        have e0 := Grew.cell hw4 e0
        have e1 := Grew.cell hw4 e1
        have hb5 : Below w.heap.size w wq := Hbr.out.trans (Below.mono (show Below wr.heap.size wr wq from hw4) Hbr.out.size)
        have Hb6 : Hid (∀ o, Below w.heap.size w (wq.alloc o)) := fun o => hb5.alloc hb5.size o
        have Hz6 : Hid (∀ o, BlkAt w.heap.size 173 zeros7 (wq.alloc o)) := fun o => BlkAt.grew (BlkAt.grew Hz.out hw4) (alloc_below _ o)
        clear hex hw4 hb5 n7 c1
        go_wp2
        go_roundw
        case rel => exact ⟨i + 1, by go_num, by omega, by rw [Hst.out]; go_num, Hb6.out _, Hz6.out _⟩
        case measure => simp [intOf]; omega
      · as_aux_lemma =>
        rw [decide_eq_false hq] at hcmp
        rw [if_neg hq] at Hst
        clear hq
        go_wp2_with (fail)
        have hex := Grew.all wr
        refine wp_region_grew (by kernel_rfl) (by kernel_rfl) ?_
        repeat (first | go_big_quiet_skip | (go_big_quiet_want; first | (refine quiet_load_mid 133 _ rfl _ _ rfl [.bool t.1, .int .i64 t.2.l, .int .i64 t.2.e, .int .i64 t.2.c, .int .i64 t.2.p] _ (fun W hW => HR.out W hW) Tryz.underlying133 rfl (by kernel_rfl) ?_; simp only [Act.put, List.setIfInBounds_toArray, List.set_cons_succ, List.set_cons_zero]; go_big_quiet_on) | (refine quiet_load_mid 131 _ rfl _ _ rfl [.int .i64 p.now.l, .int .i64 p.now.e, .int .i64 p.now.c, .int .i64 p.now.p] _ (fun W hW => HN.out W hW) Tryz.underlying131 rfl (by kernel_rfl) ?_; simp only [Act.put, List.setIfInBounds_toArray, List.set_cons_succ, List.set_cons_zero]; go_big_quiet_on) | (go_big_quiet_op; first | go_big_quiet_on | (apply Exists.intro; refine ⟨fun W hW => ?_, ?_⟩; (first | exact rfl); go_big_quiet_on))))
        refine wpQuiet_nil ?_
        intro wq hw4
        have e0 := Grew.cell hw4 e0
        have e1 := Grew.cell hw4 e1
        have hb5 : Below w.heap.size w wq := Hbr.out.trans (Below.mono (show Below wr.heap.size wr wq from hw4) Hbr.out.size)
        have Hb6 : Hid (∀ o, Below w.heap.size w (wq.alloc o)) := fun o => hb5.alloc hb5.size o
        have Hz6 : Hid (∀ o, BlkAt w.heap.size 173 zeros7 (wq.alloc o)) := fun o => BlkAt.grew (BlkAt.grew Hz.out hw4) (alloc_below _ o)
        clear hex hw4 hb5 n7 c1
        go_wp2
        go_roundw
        case rel => exact ⟨i + 1, by go_num, by omega, by rw [Hst.out]; go_num, Hb6.out _, Hz6.out _⟩
        case measure => simp [intOf]; omega
    · obtain rfl : i = p.nodes := by omega
      have HW : Hid (wonP p = if p.nodes / 2 < votesN p p.nodes then (p.now.l, true) else (0, false)) := by show _ = _; rfl
      by_cases hw : p.nodes / 2 < votesN p p.nodes
      · as_aux_lemma =>
        rw [if_pos hw] at HW
        go_wp2
        go_ret2
        exact ⟨by rw [HW.out]; rfl, Hbr.out⟩
      · as_aux_lemma =>
        rw [if_neg hw] at HW
        go_wp2_with (fail)
        go_loopw [64] (fun v64 w5 => ∃ (i : Nat), v64 = .int .i64 (i : Int) ∧ i ≤ p.nodes ∧ Below w.heap.size w w5 ∧ BlkAt w.heap.size 173 zeros7 w5) (fun v64 _ => p.nodes - (intOf v64).toNat)
        case atStart => exact ⟨0, rfl, by omega, Hbr.out, Hz.out⟩
        case round =>
          obtain ⟨i, rfl, hi, hb5, hz5⟩ := hrel
          have Hb5 := Lib.hid hb5
          have hP5 := BlkAt.grew HP.out hb5
          have c1 : wr.cell? ⟨g, 1, none⟩ = some (.int .i64 (p.nodes : Int)) := hP5.cell (by rfl)
          by_cases h : i < p.nodes
          · as_aux_lemma =>
            have hi7 : i < 7 := by omega
            have f0 : wr.cell? ⟨w.heap.size, i, none⟩ = some (.int .i64 0) := hz5.cell (by unfold zeros7; rw [List.getElem?_replicate, if_pos hi7])
            have hdz : decide ((p.nodes : Int) / 2 < 0) = false := decide_eq_false (by omega)
            have Hz5 := Lib.hid hz5
            clear hz5 hP5 hb5
            go_wp2_with (fail)
            have hex := Grew.all wr
            refine wp_region_grew (by kernel_rfl) (by kernel_rfl) ?_
            repeat (first | go_big_quiet_skip | (go_big_quiet_want; first | (refine quiet_load_cell 3 _ rfl _ rfl _ _ Tryz.underlying3 rfl (fun W hW => Grew.cell hW f0) ?_; simp only [Act.put, List.setIfInBounds_toArray, List.set_cons_succ, List.set_cons_zero]; go_big_quiet_on) | (refine quiet_load_cell 3 _ rfl _ rfl _ _ Tryz.underlying3 rfl (fun W hW => Grew.cell hW c1) ?_; simp only [Act.put, List.setIfInBounds_toArray, List.set_cons_succ, List.set_cons_zero]; go_big_quiet_on) | (go_big_quiet_op; first | go_big_quiet_on | (apply Exists.intro; refine ⟨fun W hW => ?_, ?_⟩; (first | exact rfl); go_big_quiet_on))))
            refine wpQuiet_nil ?_
            intro wq hw4
            have hb6 : Below w.heap.size w wq := Hb5.out.trans (Below.mono (show Below wr.heap.size wr wq from hw4) Hb5.out.size)
            have hz6 := BlkAt.grew Hz5.out hw4
            clear hex hw4
            go_wp2
            go_roundw
            case rel => exact ⟨i + 1, by go_num, by omega, hb6, hz6⟩
            case measure => simp [intOf]; omega
          · as_aux_lemma =>
            go_wp2
            go_ret2
            exact ⟨by rw [HW.out]; rfl, Hb5.out⟩
end Go.Proofs.YtkidhbflojlmoaaGreat
