/- The reference's Tombstone and Since; same. Conditions: as each theorem says. -/
import Derived.Test.YtnliapdhmjljiaaGenRc
namespace Go.Proofs.Ytnliapdhmjljiaa
open Go.RowKit

set_option maxRecDepth 100000 in
set_option maxHeartbeats 1000000 in
theorem field_rev (c : Ch) (W : World) : (Instr.field RefT (.agg #[.int .i64 c.rev, .int .i64 c.cr, .int .i64 c.ver, .bool c.gone]) 0).run Try.prog W = .ok (.int .i64 c.rev) W := by kernel_rfl
set_option maxRecDepth 100000 in
set_option maxHeartbeats 1000000 in
theorem refTomb_any (base : Nat) (r : Rk) (rev : Int) (u : Value) (w : World) (h : GrowR base u r.L w) (ha : ascC 0 r.L) (hl : r.L.length ≤ 100000) (hbase : base ≤ w.heap.size) :
    Calls Try.prog 11 #[.agg #[u, .int .i64 r.last], .int .i64 rev] w (RefSaid base w u (tombR r rev).1 (tombR r rev).2) := by
  obtain ⟨a, cap, rfl⟩ := h.slice
  obtain ⟨k0, k4, kb⟩ := ref_blocks (.slice a r.L.length cap) r.last w
  have HW := Lib.hid (fun W => refwrong_any (.slice a r.L.length cap) r.last rev W)
  have HA := Lib.hid (fun W (hW : Below w.heap.size w W) => refAt_any r.L r.last rev _ W ((h.below hW).rows ref_len) ha (by omega))
  have HWi := Lib.hid (fun W (hW : Below w.heap.size w W) => with_any base r.L r.last _ ⟨rev, 0, 0, true⟩ W (h.below hW) hl (by have := hW.size; omega))
  have HG := Lib.hid h
  unfold refV at HA
  have K0 := Lib.hid k0
  have K4 := Lib.hid k4
  have KB := Lib.hid kb
  clear h ha hl k0 k4 kb
  obtain ⟨L, last⟩ := r
  simp only at *
  have hcs : (wrongB last rev = true ∧ tombR ⟨L, last⟩ rev = (⟨L, last⟩, 1)) ∨ (wrongB last rev = false ∧ (atR L rev).rev = 0 ∧ tombR ⟨L, last⟩ rev = (⟨L, last⟩, 21)) ∨ (wrongB last rev = false ∧ (atR L rev).rev ≠ 0 ∧ tombR ⟨L, last⟩ rev = (⟨L ++ [⟨rev, 0, 0, true⟩], rev⟩, 0)) := by
    unfold tombR
    by_cases h1 : wrongB last rev = true
    · exact .inl ⟨h1, by rw [if_pos h1]⟩
    · by_cases h2 : (atR L rev).rev = 0
      · exact .inr (.inl ⟨by simpa using h1, h2, by rw [if_neg h1, if_pos h2]⟩)
      · exact .inr (.inr ⟨by simpa using h1, h2, by rw [if_neg h1, if_neg h2]⟩)
  rcases hcs with ⟨hw, hp⟩ | ⟨hw, hz, hp⟩ | ⟨hw, hz, hp⟩
  · rw [hp]
    rw [hw] at HW
    clear hp hw HA HWi
    go_enter Try.func11, Try.ntmps11
    have y0 := K0.out.cell (i := 0) rfl
    have y1 := K0.out.cell (i := 1) rfl
    go_wp2_with (go_at_call 26; (with_reducible refine (HW.out _).mono ?_); rintro e w1 ⟨rfl, b1⟩; have y0 := Grew.cell b1 y0; have y1 := Grew.cell b1 y1; have m4 := K4.out.grew b1; have z0 := m4.cell (i := 0) rfl; have z1 := m4.cell (i := 1) rfl; have f0 := m4.frozen 0; have f1 := m4.frozen 1; have mb := KB.out.trans (b1.mono KB.out.size); obtain ⟨hM, hF1, hF2⟩ := ref_done (last := last) (HG.out.below mb) hbase mb m4 (ref_other (HG.out.below mb) m4); clear b1)
    have hld := run_load_blk (P := Try.prog) hM _ Try.underlying27 rfl (by kernel_rfl)
    exact bodyPost_ret (v := .tuple #[.agg #[.slice a L.length cap, .int .i64 last], .int .i64 1]) (results_cell2 Try.results11 _ _ _ ⟨w.heap.size + 1, 0, none⟩ _ _ (by rfl) (by rfl) hld) rfl ⟨_, rfl, hF1, fun g hg => .inl rfl, hF2⟩
  · rw [hp]
    rw [hw] at HW
    have hf := fun W => field_rev (atR L rev) W
    rw [hz] at HA hf
    clear hp hw hz HWi
    generalize atR L rev = ch at *
    go_enter Try.func11, Try.ntmps11
    have y0 := K0.out.cell (i := 0) rfl
    have y1 := K0.out.cell (i := 1) rfl
    go_wp2_with (
      first
      | (go_at_call 26; (with_reducible refine (HW.out _).mono ?_); rintro e w1 ⟨rfl, b1⟩; have y0 := Grew.cell b1 y0; have y1 := Grew.cell b1 y1; have m4 := K4.out.grew b1; have mb := KB.out.trans (b1.mono KB.out.size); clear b1)
      | (go_at_call 17; (with_reducible refine (HA.out _ mb).mono ?_); rintro e w2 ⟨rfl, b2⟩; have y0 := Grew.cell b2 y0; have y1 := Grew.cell b2 y1; have m4 := m4.grew b2; have z0 := m4.cell (i := 0) rfl; have z1 := m4.cell (i := 1) rfl; have f0 := m4.frozen 0; have f1 := m4.frozen 1; have mb := mb.trans (b2.mono mb.size); obtain ⟨hM, hF1, hF2⟩ := ref_done (last := last) (HG.out.below mb) hbase mb m4 (ref_other (HG.out.below mb) m4); clear b2))
    have hld := run_load_blk (P := Try.prog) hM _ Try.underlying27 rfl (by kernel_rfl)
    exact bodyPost_ret (v := .tuple #[.agg #[.slice a L.length cap, .int .i64 last], .int .i64 21]) (results_cell2 Try.results11 _ _ _ ⟨w.heap.size + 1, 0, none⟩ _ _ (by rfl) (by rfl) hld) rfl ⟨_, rfl, hF1, fun g hg => .inl rfl, hF2⟩
  · rw [hp]
    rw [hw] at HW
    have dz : ((atR L rev).rev == 0) = false := by rw [beq_eq_false_iff_ne]; exact hz
    have hf := fun W => field_rev (atR L rev) W
    clear hp hw hz
    generalize atR L rev = ch at *
    go_enter Try.func11, Try.ntmps11
    have y0 := K0.out.cell (i := 0) rfl
    have y1 := K0.out.cell (i := 1) rfl
    go_wp2_with (
      first
      | (go_at_call 26; (with_reducible refine (HW.out _).mono ?_); rintro e w1 ⟨rfl, b1⟩; have y0 := Grew.cell b1 y0; have y1 := Grew.cell b1 y1; have m4 := K4.out.grew b1; have mb := KB.out.trans (b1.mono KB.out.size); clear b1)
      | (go_at_call 17; (with_reducible refine (HA.out _ mb).mono ?_); rintro e w2 ⟨rfl, b2⟩; have y0 := Grew.cell b2 y0; have y1 := Grew.cell b2 y1; have m4 := m4.grew b2; have mb := mb.trans (b2.mono mb.size); clear b2)
      | (go_at_call 27; (with_reducible refine (HWi.out _ mb).mono ?_); rintro e w3 ⟨v3, rfl, hG3, b3⟩; obtain ⟨a3, c3, rfl⟩ := hG3.slice; have hfr := fun g hg => Nat.le_trans mb.size (own_base hG3 g hg); have hG3 : GrowR base _ _ _ := hG3.mono (Nat.le_trans hbase mb.size); have m4 := m4.grew b3; have mb := mb.trans (b3.mono mb.size); have z0 := m4.cell (i := 0) rfl; have z1 := m4.cell (i := 1) rfl; have f0 := m4.frozen 0; have f1 := m4.frozen 1; obtain ⟨hM, hF1, hF2⟩ := ref_done (last := rev) hG3 hbase mb m4 (ref_other hG3 m4); clear b3))
    have hld := run_load_blk (P := Try.prog) hM _ Try.underlying27 rfl (by kernel_rfl)
    simp only [List.length_append, List.length_cons, List.length_nil, Nat.zero_add] at hM hF1 hF2 hld hfr
    exact bodyPost_ret (v := .tuple #[.agg #[.slice a3 (L.length + 1) c3, .int .i64 rev], .int .i64 0]) (results_cell2 Try.results11 _ _ _ ⟨w.heap.size + 1, 0, none⟩ _ _ (by rfl) (by rfl) hld) rfl ⟨_, rfl, hF1, fun g hg => .inr (hfr g hg), hF2⟩
def sinceR (L : List Ch) (rev : Int) (k : Nat) : List Ch := (L.take k).filter fun c => decide (rev ≤ c.rev)
theorem sinceR_step (L : List Ch) (rev : Int) (k : Nat) (hk : k < L.length) : sinceR L rev (k + 1) = sinceR L rev k ++ if rev ≤ L[k].rev then [L[k]] else [] := by
  unfold sinceR
  rw [List.take_succ_eq_append_getElem hk, List.filter_append]
  congr 1
  by_cases h : rev ≤ L[k].rev <;> simp [h]
theorem sinceR_len (L : List Ch) (rev : Int) (k : Nat) : (sinceR L rev k).length ≤ k := by
  unfold sinceR
  have h1 := List.length_filter_le (fun c : Ch => decide (rev ≤ c.rev)) (L.take k)
  have h2 : (L.take k).length ≤ k := by rw [List.length_take]; omega
  omega
set_option maxRecDepth 100000 in
set_option maxHeartbeats 1000000 in
theorem refSince_any (L : List Ch) (last rev : Int) (u : Value) (w : World) (h : RowsAt 4 refCells w u L) (hl : L.length ≤ 100000) :
    Calls Try.prog 20 #[.agg #[u, .int .i64 last], .int .i64 rev] w fun e w' => ∃ v, e = .returned v ∧ GrowR w.heap.size v (L.filter fun c => decide (rev ≤ c.rev)) w' ∧ Below w.heap.size w w' := by
  have HR := Lib.hid h
  obtain ⟨a, cap, rfl, _⟩ := h
  have k0 := BlkAt.alloc_new w [.slice a L.length cap, .int .i64 last] RkT
  have kb := alloc_below w (.cells #[.slice a L.length cap, .int .i64 last] RkT)
  go_enter Try.func20, Try.ntmps20
  go_wp2_with (fail)
  generalize w.alloc (.cells #[.slice a L.length cap, .int .i64 last] RkT) = wb at *
  go_loopw [5, 6] (fun out iv W => ∃ (k : Nat) (v : Value), k ≤ L.length ∧ iv = .int .i64 (k : Int) ∧ out = v ∧ GrowR w.heap.size v (sinceR L rev k) W ∧ BlkAt w.heap.size RkT [.slice a L.length cap, .int .i64 last] W ∧ Below w.heap.size w W) (fun _ iv _ => L.length - (intOf iv).toNat)
  case atStart => exact ⟨0, _, Nat.zero_le _, rfl, rfl, Grow.nil _, k0, kb⟩
  case round =>
    obtain ⟨k, v, hk, rfl, rfl, hG, hK, hB⟩ := hrel
    have c0 := hK.cell (i := 0) rfl
    have hsz := hB.size
    have hkl := sinceR_len L rev k
    clear k0 kb
    by_cases hlt : k < L.length
    · obtain ⟨b, off, rfl, z0, z1, z2, z3⟩ := ref_get (HR.out.grew hB) k hlt
      have hst := sinceR_step L rev k hlt
      have dk : decide (k < L.length) = true := decide_eq_true hlt
      clear HR
      generalize L[k] = x at *
      by_cases hr : rev ≤ x.rev
      · have dr : decide (rev ≤ x.rev) = true := decide_eq_true hr
        have HS : Hid (sinceR L rev (k + 1) = sinceR L rev k ++ [x]) := Lib.hid (by rw [hst, if_pos hr])
        have HK := Lib.hid hK
        have HB := Lib.hid hB
        clear hst hr hK
        go_wp2_with (at_builtin; refine wpList_append_grow rfl _ _ _ rfl Try.underlying25 _ _ infoRef rfl (by decide) rfl hG hsz x _ rfl rfl (ref_one x) rfl (by unfold maxLen; omega) (by omega) ?_; intro v' w2 hG2 hg2; obtain ⟨a2, c2, rfl⟩ := hG2.slice; have hGa := hG.below (alloc_below wr (.cells #[.int .i64 x.rev, .int .i64 x.cr, .int .i64 x.ver, .bool x.gone] RefT)); have HB2 := Lib.hid (hGa.since hg2 (HB.out.alloc hsz (.cells #[.int .i64 x.rev, .int .i64 x.cr, .int .i64 x.ver, .bool x.gone] RefT)) (Nat.le_refl _)); have HK2 : Hid (BlkAt w.heap.size RkT [.slice (some ⟨b, off, none⟩) L.length cap, .int .i64 last] w2) := Lib.hid (hGa.kept hg2 (HK.out.grew (alloc_below wr (.cells #[.int .i64 x.rev, .int .i64 x.cr, .int .i64 x.ver, .bool x.gone] RefT))) (by decide)); have HG2 := Lib.hid hG2; clear hG2 hg2 hG hGa)
        go_roundw
        case rel => exact ⟨k + 1, _, hlt, by go_num, rfl, by rw [HS.out]; have := HG2.out; rw [List.length_append] at this; exact this, HK2.out, HB2.out⟩
        case measure => simp [intOf]; omega
      · have dr : decide (rev ≤ x.rev) = false := decide_eq_false hr
        have HS : Hid (sinceR L rev (k + 1) = sinceR L rev k) := Lib.hid (by rw [hst, if_neg hr, List.append_nil])
        have HK := Lib.hid hK
        have HB := Lib.hid hB
        have HG := Lib.hid hG
        clear hst hr hK hB hG
        go_wp2
        go_roundw
        case rel => exact ⟨k + 1, _, hlt, by go_num, rfl, by rw [HS.out]; exact HG.out, HK.out, HB.out⟩
        case measure => simp [intOf]; omega
    · obtain rfl : k = L.length := by omega
      unfold sinceR at hG
      rw [List.take_length] at hG
      have HG := Lib.hid hG
      have HB := Lib.hid hB
      clear hG hB hK
      go_wp2
      go_ret
      exact ⟨_, rfl, HG.out, HB.out⟩
end Go.Proofs.Ytnliapdhmjljiaa
