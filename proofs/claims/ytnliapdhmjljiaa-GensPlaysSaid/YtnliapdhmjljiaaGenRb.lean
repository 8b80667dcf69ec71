/- The reference's wrong, with, Put, Tombstone. Conditions: as each theorem says. -/
import Derived.Test.YtnliapdhmjljiaaGenRa
namespace Go.Proofs.Ytnliapdhmjljiaa
open Go.RowKit

theorem refwrong_any (u : Value) (last rev : Int) (w : World) : Calls Try.prog 26 #[.agg #[u, .int .i64 last], .int .i64 rev] w fun e w' => e = .returned (.bool (wrongB last rev)) ∧ Below w.heap.size w w' := by
  have hb := alloc_below w (.cells #[u, .int .i64 last] RkT)
  have HB := Lib.hid hb
  have k1 := (BlkAt.alloc_new w [u, .int .i64 last] RkT).cell (i := 1) rfl
  clear hb
  have hcs : (decide (rev < 1) = true ∧ wrongB last rev = true) ∨ (decide (rev < 1) = false ∧ decide (1099511627776 < rev) = true ∧ wrongB last rev = true) ∨ (decide (rev < 1) = false ∧ decide (1099511627776 < rev) = false ∧ wrongB last rev = decide (rev ≤ last)) := by
    unfold wrongB
    by_cases h1 : rev < 1
    · simp [h1]
    · by_cases h2 : 1099511627776 < rev
      · simp [h1, h2]
      · simp [h1, h2]
  rcases hcs with ⟨d1, e⟩ | ⟨d1, d2, e⟩ | ⟨d1, d2, e⟩
  all_goals
    have HE := Lib.hid e
    clear e
    go_enter Try.func26, Try.ntmps26
    go_wp2
    go_ret
    exact ⟨by rw [HE.out]; rfl, HB.out⟩
theorem grown_undrew {w b : World} {r : Option Nat} (h : w.drew.grownBy b r) : w.grownBy b r := ⟨h.os, h.tape, h.output, h.size, h.block⟩
/-- The reference's key: a row of the law's own. -/
abbrev GrowR (base : Nat) (u : Value) (L : List Ch) (w : World) : Prop := Grow RefT 4 refCells base u L w
set_option maxRecDepth 100000 in
set_option maxHeartbeats 1000000 in
theorem with_any (base : Nat) (L : List Ch) (last : Int) (u : Value) (c : Ch) (w : World) (h : GrowR base u L w) (hl : L.length ≤ 100000) (hbase : base ≤ w.heap.size) :
    Calls Try.prog 27 #[.agg #[u, .int .i64 last], .agg #[.int .i64 c.rev, .int .i64 c.cr, .int .i64 c.ver, .bool c.gone]] w fun e w' => ∃ v, e = .returned (.agg #[v, .int .i64 c.rev]) ∧ GrowR w.heap.size v (L ++ [c]) w' ∧ Below w.heap.size w w' := by
  have hb0 := alloc_below w (.cells #[u, .int .i64 last] RkT)
  have hk0 := BlkAt.alloc_new w [u, .int .i64 last] RkT
  have hb1 := alloc_below (w.alloc (.cells #[u, .int .i64 last] RkT)) (.cells #[.int .i64 c.rev, .int .i64 c.cr, .int .i64 c.ver, .bool c.gone] RefT)
  have hk1 := BlkAt.alloc_new (w.alloc (.cells #[u, .int .i64 last] RkT)) [.int .i64 c.rev, .int .i64 c.cr, .int .i64 c.ver, .bool c.gone] RefT
  have hb2 := alloc_below ((w.alloc (.cells #[u, .int .i64 last] RkT)).alloc (.cells #[.int .i64 c.rev, .int .i64 c.cr, .int .i64 c.ver, .bool c.gone] RefT)) (.cells #[.slice none 0 0, .int .i64 0] RkT)
  have hk2 := BlkAt.alloc_new ((w.alloc (.cells #[u, .int .i64 last] RkT)).alloc (.cells #[.int .i64 c.rev, .int .i64 c.cr, .int .i64 c.ver, .bool c.gone] RefT)) [.slice none 0 0, .int .i64 0] RkT
  have K0 := Lib.hid ((hk0.grew hb1).grew hb2)
  have K1 := Lib.hid (hk1.grew hb2)
  have K2 := Lib.hid hk2
  have KB := Lib.hid (hb0.trans ((hb1.mono hb0.size).trans (hb2.mono (Nat.le_trans hb0.size hb1.size))))
  have c0 := K0.out.cell (i := 0) rfl
  have HG := Lib.hid (h.below KB.out)
  clear hb0 hk0 hb1 hk1 hb2 hk2
  simp only [World.size_alloc] at K1 K2
  go_enter Try.func27, Try.ntmps27
  by_cases hn : 0 < L.length
  · obtain ⟨g, cap, rfl, hg⟩ := h.form hn
    clear h
    go_wp2_with (at_builtin; refine wpList_append_all (v := .slice none 0 0) rfl _ _ _ rfl Try.underlying25 _ _ infoRef rfl (by decide) rfl (Grow.nil (base := w.heap.size + 1 + 1 + 1) _) (by simp) L ⟨g, 0, none⟩ cap (HG.out.rows ref_len) hn ref_len (fun x _ => ref_one x) rfl (by unfold maxLen; simp; omega) (by simp; omega) ?_; intro v1 w1 hG1 hg1)
    obtain ⟨g1, cap1, rfl, hgb1⟩ := hG1.form (by simpa using hn)
    obtain ⟨a1, ha1⟩ : ∃ a1 : Option Addr, a1 = some ⟨g1, 0, none⟩ := ⟨_, rfl⟩
    have L1 := Lib.hid (K1.out.grown hg1 (by simp [Value.ownBlock]))
    have L2 := Lib.hid (K2.out.grown hg1 (by simp [Value.ownBlock]))
    have LB := Lib.hid (KB.out.trans ((show Below _ _ w1 from ⟨hg1.os, hg1.tape, hg1.output, hg1.size, fun i hi => hg1.block i hi (by simp [Value.ownBlock])⟩).mono KB.out.size))
    have HG1 := Lib.hid hG1
    simp only [List.nil_append] at HG1 ⊢
    rw [← ha1] at HG1 ⊢
    clear hG1 hg1 HG c0 ha1 hgb1
    have x0 := L1.out.cell (i := 0) rfl
    have x1 := L1.out.cell (i := 1) rfl
    have x2 := L1.out.cell (i := 2) rfl
    have x3 := L1.out.cell (i := 3) rfl
    have x0a := fun o => Grew.cell (alloc_below w1 o) x0
    have HGa := Lib.hid (HG1.out.below (alloc_below w1 (.cells #[.int .i64 c.rev, .int .i64 c.cr, .int .i64 c.ver, .bool c.gone] RefT)))
    have hlb := LB.out.size
    have hl2 := L2.out.lt
    have HRa : Hid (∀ j u, (refCells c)[j]? = some u → (w1.alloc (.cells #[.int .i64 c.rev, .int .i64 c.cr, .int .i64 c.ver, .bool c.gone] RefT)).cell? ⟨w1.heap.size, j, none⟩ = some u) := Lib.hid (fun j u hu => (BlkAt.alloc_new w1 (refCells c) RefT).cell hu)
    clear HG1
    go_region_law (refine step_append_grow (v := .slice a1 L.length cap1) (by rfl) _ _ 25 (by rfl) Try.underlying25 _ _ infoRef rfl (by decide) (by rfl) (by first | exact HGa.out | exact HGa.out.drew | exact HGa.out.drew.drew | exact HGa.out.drew.drew.drew) (by simp; omega) c rfl (ref_one c) w1.heap.size (by rfl) (by intro j u hu; simpa using HRa.out j u hu) (by unfold maxLen; omega) (by omega) ?_; intro v2 w2 hG2 hg2; obtain ⟨a2, c2, rfl⟩ := hG2.slice; (try have hg2 := grown_undrew hg2); (try have hg2 := grown_undrew hg2); (try have hg2 := grown_undrew hg2); have M1 := Lib.hid (HGa.out.blk hg2 (L1.out.grew (alloc_below w1 (.cells #[.int .i64 c.rev, .int .i64 c.cr, .int .i64 c.ver, .bool c.gone] RefT))) (by omega)); have M2 := Lib.hid (HGa.out.blk hg2 (L2.out.grew (alloc_below w1 (.cells #[.int .i64 c.rev, .int .i64 c.cr, .int .i64 c.ver, .bool c.gone] RefT))) (by omega)); have y0 := M1.out.cell (i := 0) rfl; have z0 := M2.out.cell (i := 0) rfl; have z1 := M2.out.cell (i := 1) rfl; have fz0 := M2.out.frozen 0; have fz1 := M2.out.frozen 1; have MB := Lib.hid (HGa.out.since hg2 (LB.out.alloc hlb (.cells #[.int .i64 c.rev, .int .i64 c.cr, .int .i64 c.ver, .bool c.gone] RefT)) (by omega)); have MG := Lib.hid hG2; clear hG2 hg2)
    all_goals
      have hM := Lib.hid ((M2.out.set 0 (.slice a2 (L ++ [c]).length c2)).set 1 (.int .i64 c.rev))
      simp only [List.set_cons_zero, List.set_cons_succ, List.length_append, List.length_cons, List.length_nil, Nat.zero_add] at hM
      have hld := run_load_blk (P := Try.prog) hM.out _ Try.underlying27 rfl (by kernel_rfl)
      have HF : Hid (GrowR w.heap.size (.slice a2 (L.length + 1) c2) (L ++ [c]) ((w2.setCell ⟨w.heap.size + 1 + 1, 0, none⟩ (.slice a2 (L.length + 1) c2)).setCell ⟨w.heap.size + 1 + 1, 1, none⟩ (.int .i64 c.rev)) ∧ Below w.heap.size w ((w2.setCell ⟨w.heap.size + 1 + 1, 0, none⟩ (.slice a2 (L.length + 1) c2)).setCell ⟨w.heap.size + 1 + 1, 1, none⟩ (.int .i64 c.rev))) := by
        apply Lib.hid
        have hx := MG.out
        rw [List.length_append] at hx
        exact ⟨(((hx.past (by omega) 0 _).past (by omega) 1 _).mono (by omega)), below_set (below_set MB.out (by omega) 0 _) (by omega) 1 _⟩
      clear z0 z1 fz0 fz1 y0 x0 x1 x2 x3 x0a
      go_wp2
      exact bodyPost_ret (v := .agg #[.slice a2 (L.length + 1) c2, .int .i64 c.rev]) (results_cell Try.results27 _ _ _ ⟨w.heap.size + 1 + 1, 0, none⟩ _ (by rfl) hld) rfl ⟨_, rfl, HF.out⟩
  · have h0 : L.length = 0 := by omega
    have hL0 : L = [] := List.length_eq_zero_iff.1 h0
    obtain ⟨a, cap, hu⟩ := h.slice
    rw [h0] at hu
    subst hu
    have HG1 : Hid (GrowR (w.heap.size + 1 + 1 + 1) (.slice none 0 0) L (((w.alloc (.cells #[.slice a 0 cap, .int .i64 last] RkT)).alloc (.cells #[.int .i64 c.rev, .int .i64 c.cr, .int .i64 c.ver, .bool c.gone] RefT)).alloc (.cells #[.slice none 0 0, .int .i64 0] RkT))) := Lib.hid (by rw [hL0]; exact Grow.nil _)
    have L1 := Lib.hid K1.out
    have L2 := Lib.hid K2.out
    have LB := Lib.hid KB.out
    clear h HG hL0 K0 K1 K2 KB h0 hn
    cases a with
    | none =>
      go_wp2_with (fail)
      generalize ((w.alloc (.cells #[.slice none 0 cap, .int .i64 last] RkT)).alloc (.cells #[.int .i64 c.rev, .int .i64 c.cr, .int .i64 c.ver, .bool c.gone] RefT)).alloc (.cells #[.slice none 0 0, .int .i64 0] RkT) = w1 at *
      have x0 := L1.out.cell (i := 0) rfl
      have x1 := L1.out.cell (i := 1) rfl
      have x2 := L1.out.cell (i := 2) rfl
      have x3 := L1.out.cell (i := 3) rfl
      have x0a := fun o => Grew.cell (alloc_below w1 o) x0
      have HGa := Lib.hid (HG1.out.below (alloc_below w1 (.cells #[.int .i64 c.rev, .int .i64 c.cr, .int .i64 c.ver, .bool c.gone] RefT)))
      have hlb := LB.out.size
      have hl2 := L2.out.lt
      have HRa : Hid (∀ j u, (refCells c)[j]? = some u → (w1.alloc (.cells #[.int .i64 c.rev, .int .i64 c.cr, .int .i64 c.ver, .bool c.gone] RefT)).cell? ⟨w1.heap.size, j, none⟩ = some u) := Lib.hid (fun j u hu => (BlkAt.alloc_new w1 (refCells c) RefT).cell hu)
      clear HG1
      go_region_law (refine step_append_grow (v := .slice none 0 0) (by rfl) _ _ 25 (by rfl) Try.underlying25 _ _ infoRef rfl (by decide) (by rfl) (by first | exact HGa.out | exact HGa.out.drew | exact HGa.out.drew.drew | exact HGa.out.drew.drew.drew) (by simp; omega) c rfl (ref_one c) w1.heap.size (by rfl) (by intro j u hu; simpa using HRa.out j u hu) (by unfold maxLen; omega) (by omega) ?_; intro v2 w2 hG2 hg2; obtain ⟨a2, c2, rfl⟩ := hG2.slice; (try have hg2 := grown_undrew hg2); (try have hg2 := grown_undrew hg2); (try have hg2 := grown_undrew hg2); have M1 := Lib.hid (HGa.out.blk hg2 (L1.out.grew (alloc_below w1 (.cells #[.int .i64 c.rev, .int .i64 c.cr, .int .i64 c.ver, .bool c.gone] RefT))) (by omega)); have M2 := Lib.hid (HGa.out.blk hg2 (L2.out.grew (alloc_below w1 (.cells #[.int .i64 c.rev, .int .i64 c.cr, .int .i64 c.ver, .bool c.gone] RefT))) (by omega)); have y0 := M1.out.cell (i := 0) rfl; have z0 := M2.out.cell (i := 0) rfl; have z1 := M2.out.cell (i := 1) rfl; have fz0 := M2.out.frozen 0; have fz1 := M2.out.frozen 1; have MB := Lib.hid (HGa.out.since hg2 (LB.out.alloc hlb (.cells #[.int .i64 c.rev, .int .i64 c.cr, .int .i64 c.ver, .bool c.gone] RefT)) (by omega)); have MG := Lib.hid hG2; clear hG2 hg2)
      all_goals
        have hM := Lib.hid ((M2.out.set 0 (.slice a2 (L ++ [c]).length c2)).set 1 (.int .i64 c.rev))
        simp only [List.set_cons_zero, List.set_cons_succ, List.length_append, List.length_cons, List.length_nil, Nat.zero_add] at hM
        have hld := run_load_blk (P := Try.prog) hM.out _ Try.underlying27 rfl (by kernel_rfl)
        have HF : Hid (GrowR w.heap.size (.slice a2 (L.length + 1) c2) (L ++ [c]) ((w2.setCell ⟨w.heap.size + 1 + 1, 0, none⟩ (.slice a2 (L.length + 1) c2)).setCell ⟨w.heap.size + 1 + 1, 1, none⟩ (.int .i64 c.rev)) ∧ Below w.heap.size w ((w2.setCell ⟨w.heap.size + 1 + 1, 0, none⟩ (.slice a2 (L.length + 1) c2)).setCell ⟨w.heap.size + 1 + 1, 1, none⟩ (.int .i64 c.rev))) := by
          apply Lib.hid
          have hx := MG.out
          rw [List.length_append] at hx
          exact ⟨(((hx.past (by omega) 0 _).past (by omega) 1 _).mono (by omega)), below_set (below_set MB.out (by omega) 0 _) (by omega) 1 _⟩
        clear z0 z1 fz0 fz1 y0 x0 x1 x2 x3 x0a
        go_wp2
        exact bodyPost_ret (v := .agg #[.slice a2 (L.length + 1) c2, .int .i64 c.rev]) (results_cell Try.results27 _ _ _ ⟨w.heap.size + 1 + 1, 0, none⟩ _ (by rfl) hld) rfl ⟨_, rfl, HF.out⟩
    | some ad =>
      go_wp2_with (fail)
      generalize ((w.alloc (.cells #[.slice (some ad) 0 cap, .int .i64 last] RkT)).alloc (.cells #[.int .i64 c.rev, .int .i64 c.cr, .int .i64 c.ver, .bool c.gone] RefT)).alloc (.cells #[.slice none 0 0, .int .i64 0] RkT) = w1 at *
      have x0 := L1.out.cell (i := 0) rfl
      have x1 := L1.out.cell (i := 1) rfl
      have x2 := L1.out.cell (i := 2) rfl
      have x3 := L1.out.cell (i := 3) rfl
      have x0a := fun o => Grew.cell (alloc_below w1 o) x0
      have HGa := Lib.hid (HG1.out.below (alloc_below w1 (.cells #[.int .i64 c.rev, .int .i64 c.cr, .int .i64 c.ver, .bool c.gone] RefT)))
      have hlb := LB.out.size
      have hl2 := L2.out.lt
      have HRa : Hid (∀ j u, (refCells c)[j]? = some u → (w1.alloc (.cells #[.int .i64 c.rev, .int .i64 c.cr, .int .i64 c.ver, .bool c.gone] RefT)).cell? ⟨w1.heap.size, j, none⟩ = some u) := Lib.hid (fun j u hu => (BlkAt.alloc_new w1 (refCells c) RefT).cell hu)
      clear HG1
      go_region_law (refine step_append_grow (v := .slice none 0 0) (by rfl) _ _ 25 (by rfl) Try.underlying25 _ _ infoRef rfl (by decide) (by rfl) (by first | exact HGa.out | exact HGa.out.drew | exact HGa.out.drew.drew | exact HGa.out.drew.drew.drew) (by simp; omega) c rfl (ref_one c) w1.heap.size (by rfl) (by intro j u hu; simpa using HRa.out j u hu) (by unfold maxLen; omega) (by omega) ?_; intro v2 w2 hG2 hg2; obtain ⟨a2, c2, rfl⟩ := hG2.slice; (try have hg2 := grown_undrew hg2); (try have hg2 := grown_undrew hg2); (try have hg2 := grown_undrew hg2); have M1 := Lib.hid (HGa.out.blk hg2 (L1.out.grew (alloc_below w1 (.cells #[.int .i64 c.rev, .int .i64 c.cr, .int .i64 c.ver, .bool c.gone] RefT))) (by omega)); have M2 := Lib.hid (HGa.out.blk hg2 (L2.out.grew (alloc_below w1 (.cells #[.int .i64 c.rev, .int .i64 c.cr, .int .i64 c.ver, .bool c.gone] RefT))) (by omega)); have y0 := M1.out.cell (i := 0) rfl; have z0 := M2.out.cell (i := 0) rfl; have z1 := M2.out.cell (i := 1) rfl; have fz0 := M2.out.frozen 0; have fz1 := M2.out.frozen 1; have MB := Lib.hid (HGa.out.since hg2 (LB.out.alloc hlb (.cells #[.int .i64 c.rev, .int .i64 c.cr, .int .i64 c.ver, .bool c.gone] RefT)) (by omega)); have MG := Lib.hid hG2; clear hG2 hg2)
      all_goals
        have hM := Lib.hid ((M2.out.set 0 (.slice a2 (L ++ [c]).length c2)).set 1 (.int .i64 c.rev))
        simp only [List.set_cons_zero, List.set_cons_succ, List.length_append, List.length_cons, List.length_nil, Nat.zero_add] at hM
        have hld := run_load_blk (P := Try.prog) hM.out _ Try.underlying27 rfl (by kernel_rfl)
        have HF : Hid (GrowR w.heap.size (.slice a2 (L.length + 1) c2) (L ++ [c]) ((w2.setCell ⟨w.heap.size + 1 + 1, 0, none⟩ (.slice a2 (L.length + 1) c2)).setCell ⟨w.heap.size + 1 + 1, 1, none⟩ (.int .i64 c.rev)) ∧ Below w.heap.size w ((w2.setCell ⟨w.heap.size + 1 + 1, 0, none⟩ (.slice a2 (L.length + 1) c2)).setCell ⟨w.heap.size + 1 + 1, 1, none⟩ (.int .i64 c.rev))) := by
          apply Lib.hid
          have hx := MG.out
          rw [List.length_append] at hx
          exact ⟨(((hx.past (by omega) 0 _).past (by omega) 1 _).mono (by omega)), below_set (below_set MB.out (by omega) 0 _) (by omega) 1 _⟩
        clear z0 z1 fz0 fz1 y0 x0 x1 x2 x3 x0a
        go_wp2
        exact bodyPost_ret (v := .agg #[.slice a2 (L.length + 1) c2, .int .i64 c.rev]) (results_cell Try.results27 _ _ _ ⟨w.heap.size + 1 + 1, 0, none⟩ _ (by rfl) hld) rfl ⟨_, rfl, HF.out⟩
end Go.Proofs.Ytnliapdhmjljiaa
