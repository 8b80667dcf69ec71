/- The reference's Compact; same. Conditions: as each theorem says. -/
import Derived.Test.YtnliapdhmjljiaaGenRd
namespace Go.Proofs.Ytnliapdhmjljiaa
open Go.RowKit

def leftK (L : List Ch) (now rev : Int) (k : Nat) : List Ch := leftR now rev (L.take k)
theorem leftK_step (L : List Ch) (now rev : Int) (k : Nat) (hk : k < L.length) : leftK L now rev (k + 1) = leftK L now rev k ++ if rev < L[k].rev ∨ L[k].rev = now then [L[k]] else [] := by
  unfold leftK
  rw [List.take_succ_eq_append_getElem hk, leftR_append]
  congr 1
  unfold leftR
  by_cases h : rev < L[k].rev ∨ L[k].rev = now
  · rw [if_pos h]; simp [h]
  · rw [if_neg h]; simp [h]
theorem leftK_len (L : List Ch) (now rev : Int) (k : Nat) : (leftK L now rev k).length ≤ k := by
  unfold leftK leftR
  have h1 := List.length_filter_le (fun c : Ch => decide (rev < c.rev) || decide (c.rev = now)) (L.take k)
  have h2 : (L.take k).length ≤ k := by rw [List.length_take]; omega
  omega
theorem leftK_all (L : List Ch) (now rev : Int) : leftK L now rev L.length = leftR now rev L := by unfold leftK; rw [List.take_length]
/-- A row's element in a world of blocks. -/
structure Cmp (w wb : World) (u : Value) (last : Int) (x : Ch) (b6 : Nat) (v : Value) (M : List Ch) (W : World) : Prop where
  k2 : BlkAt w.heap.size RkT [u, .int .i64 last] W
  k4 : BlkAt (w.heap.size + 1) RkT [.slice none 0 0, .int .i64 0] W
  k5 : BlkAt (w.heap.size + 1 + 1) RkT [v, .int .i64 last] W
  k6 : BlkAt b6 RefT [.int .i64 x.rev, .int .i64 x.cr, .int .i64 x.ver, .bool x.gone] W
  row : GrowR wb.heap.size v M W
  below : Below w.heap.size w W
  size : wb.heap.size ≤ W.heap.size
  in6 : b6 < wb.heap.size
  lo6 : w.heap.size + 1 + 1 < b6
theorem Cmp.drew {w wb : World} {u : Value} {last : Int} {x : Ch} {b6 : Nat} {v : Value} {M : List Ch} {W : World} (h : Cmp w wb u last x b6 v M W) (n : Nat) : Cmp w wb u last x b6 v M (W.drewN n) :=
  ⟨h.k2, h.k4, h.k5, h.k6, h.row, h.below.trans ((below_drew W n).mono h.below.size), h.size, h.in6, h.lo6⟩
theorem Cmp.more {w wb : World} {u : Value} {last : Int} {x : Ch} {b6 : Nat} {v v' : Value} {M : List Ch} {W w2 : World} {c : Ch} (h : Cmp w wb u last x b6 v M W) (o : Obj) (hG : GrowR wb.heap.size v' (M ++ [c]) w2) (hg : (W.alloc o).grownBy w2 v.ownBlock) :
    BlkAt (w.heap.size + 1 + 1) RkT [v, .int .i64 last] w2 ∧ Cmp w wb u last x b6 v' (M ++ [c]) (w2.setCell ⟨w.heap.size + 1 + 1, 0, none⟩ v') := by
  have h6 := h.in6
  have h6' := h.lo6
  have hs := h.size
  have ha := h.row.below (alloc_below W o)
  have m2 := ha.blk hg (h.k2.grew (alloc_below W o)) (by omega)
  have m4 := ha.blk hg (h.k4.grew (alloc_below W o)) (by omega)
  have m5 := ha.blk hg (h.k5.grew (alloc_below W o)) (by omega)
  have m6 := ha.blk hg (h.k6.grew (alloc_below W o)) h6
  have mb := ha.since hg (h.below.alloc h.below.size o) (by omega)
  have hgs := hg.size
  simp only [World.size_alloc] at hgs
  refine ⟨m5, m2.grown (grown_set w2 _ 0 v') (by simp; omega), m4.grown (grown_set w2 _ 0 v') (by simp), m5.set 0 v', m6.grown (grown_set w2 _ 0 v') (by simp; omega), hG.past (by omega) 0 v', below_set mb (by omega) 0 v', ?_, h6, h6'⟩
  have := (grown_set w2 (w.heap.size + 1 + 1) 0 v').size
  omega
set_option maxRecDepth 100000 in
set_option maxHeartbeats 2000000 in
theorem refComp_any (base : Nat) (r : Rk) (rev : Int) (u : Value) (w : World) (h : GrowR base u r.L w) (ha : ascC 0 r.L) (hl : r.L.length ≤ 100000) (hbase : base ≤ w.heap.size) :
    Calls Try.prog 12 #[.agg #[u, .int .i64 r.last], .int .i64 rev] w fun e w' => ∃ v, e = .returned (.agg #[v, .int .i64 r.last]) ∧ GrowR base v (compR r rev).L w' ∧ (∀ g, v.ownBlock = some g → w.heap.size ≤ g) ∧ Below w.heap.size w w' := by
  obtain ⟨a, cap, rfl⟩ := h.slice
  have HA := Lib.hid (fun W (hW : Below w.heap.size w W) => refAt_any r.L r.last rev _ W ((h.below hW).rows ref_len) ha (by omega))
  have HR := Lib.hid (fun W (hW : Below w.heap.size w W) => (h.below hW).rows ref_len)
  have HF : Hid ((compR r rev).L = leftR (atR r.L rev).rev rev r.L) := Lib.hid rfl
  unfold refV at HA
  obtain ⟨L, last⟩ := r
  simp only at *
  generalize (compR ⟨L, last⟩ rev).L = FL at *
  generalize atR L rev = x at *
  clear ha h
  have hb0 := alloc_below w (.cells #[.slice a L.length cap, .int .i64 last] RkT)
  have hk0 := BlkAt.alloc_new w [.slice a L.length cap, .int .i64 last] RkT
  have hb1 := alloc_below (w.alloc (.cells #[.slice a L.length cap, .int .i64 last] RkT)) (.cells #[.slice none 0 0, .int .i64 0] RkT)
  have hk1 := BlkAt.alloc_new (w.alloc (.cells #[.slice a L.length cap, .int .i64 last] RkT)) [.slice none 0 0, .int .i64 0] RkT
  have hb2 := alloc_below ((w.alloc (.cells #[.slice a L.length cap, .int .i64 last] RkT)).alloc (.cells #[.slice none 0 0, .int .i64 0] RkT)) (.cells #[.slice none 0 0, .int .i64 last] RkT)
  have hk2 := BlkAt.alloc_new ((w.alloc (.cells #[.slice a L.length cap, .int .i64 last] RkT)).alloc (.cells #[.slice none 0 0, .int .i64 0] RkT)) [.slice none 0 0, .int .i64 last] RkT
  have K0 := Lib.hid ((hk0.grew hb1).grew hb2)
  have K1 := Lib.hid (hk1.grew hb2)
  have K2 := Lib.hid hk2
  have KB := Lib.hid (hb0.trans ((hb1.mono hb0.size).trans (hb2.mono (Nat.le_trans hb0.size hb1.size))))
  clear hb0 hk0 hb1 hk1 hb2 hk2
  simp only [World.size_alloc] at K1 K2
  have y0 := K0.out.cell (i := 0) rfl
  have y1 := K0.out.cell (i := 1) rfl
  go_enter Try.func12, Try.ntmps12
  go_wp2_with (go_at_call 17; (with_reducible refine (HA.out _ KB.out).mono ?_); rintro e w1 ⟨rfl, b1⟩; have m0 := K0.out.grew b1; have m1 := K1.out.grew b1; have m2 := K2.out.grew b1; have mb := KB.out.trans (b1.mono KB.out.size); have hlt1 := m2.lt; clear y0 y1)
  have hC : Cmp w (w1.alloc (.cells #[.int .i64 x.rev, .int .i64 x.cr, .int .i64 x.ver, .bool x.gone] RefT)) (.slice a L.length cap) last x w1.heap.size (.slice none 0 0) [] (w1.alloc (.cells #[.int .i64 x.rev, .int .i64 x.cr, .int .i64 x.ver, .bool x.gone] RefT)) :=
    ⟨m0.grew (alloc_below w1 _), m1.grew (alloc_below w1 _), m2.grew (alloc_below w1 _), BlkAt.alloc_new w1 [.int .i64 x.rev, .int .i64 x.cr, .int .i64 x.ver, .bool x.gone] RefT, Grow.nil _, mb.alloc mb.size _, Nat.le_refl _, by simp, hlt1⟩
  clear m0 m1 m2 mb hlt1 b1 K0 K1 K2 KB
  generalize w1.alloc (.cells #[.int .i64 x.rev, .int .i64 x.cr, .int .i64 x.ver, .bool x.gone] RefT) = wb at *
  generalize w1.heap.size = b6 at *
  go_loopw [7] (fun iv W => ∃ (k : Nat) (v : Value), k ≤ L.length ∧ iv = .int .i64 (k : Int) ∧ Cmp w wb (.slice a L.length cap) last x b6 v (leftK L x.rev rev k) W) (fun iv _ => L.length - (intOf iv).toNat)
  case atStart => exact ⟨0, _, Nat.zero_le _, rfl, hC⟩
  case round =>
    obtain ⟨k, v, hk, rfl, hD⟩ := hrel
    have c0 := hD.k2.cell (i := 0) rfl
    have c6 := hD.k6.cell (i := 0) rfl
    have hkl := leftK_len L x.rev rev k
    clear hC
    by_cases hlt : k < L.length
    · obtain ⟨b, off, rfl, z0, z1, z2, z3⟩ := ref_get (HR.out wr hD.below) k hlt
      have hst := leftK_step L x.rev rev k hlt
      have dk : decide (k < L.length) = true := decide_eq_true hlt
      clear HR HF HA
      generalize L[k] = y at *
      by_cases hr : rev < y.rev
      · have dr : decide (rev < y.rev) = true := decide_eq_true hr
        have HS : Hid (leftK L x.rev rev (k + 1) = leftK L x.rev rev k ++ [y]) := Lib.hid (by rw [hst, if_pos (by omega)])
        have HD := Lib.hid (fun n => hD.drew n)
        clear hst hr hD
        go_wp2_with (fail)
        go_quiet (fail)
        go_wp2_with (fail)
        have hE := HD.out nq
        obtain ⟨a1, n1, rfl⟩ := hE.row.slice
        have c0 : (wr.drewN nq).cell? _ = _ := c0
        have z0 : (wr.drewN nq).cell? _ = _ := z0
        have z1 : (wr.drewN nq).cell? _ = _ := z1
        have z2 : (wr.drewN nq).cell? _ = _ := z2
        have z3 : (wr.drewN nq).cell? _ = _ := z3
        have c5 := hE.k5.cell (i := 0) rfl
        clear HD c6
        generalize wr.drewN nq = wq at *
        have c5a := fun o => Grew.cell (alloc_below wq o) c5
        have c0a := fun o => Grew.cell (alloc_below wq o) c0
        have HGa := Lib.hid (hE.row.below (alloc_below wq (.cells #[.int .i64 y.rev, .int .i64 y.cr, .int .i64 y.ver, .bool y.gone] RefT)))
        have HRa : Hid (∀ j u, (refCells y)[j]? = some u → (wq.alloc (.cells #[.int .i64 y.rev, .int .i64 y.cr, .int .i64 y.ver, .bool y.gone] RefT)).cell? ⟨wq.heap.size, j, none⟩ = some u) := Lib.hid (fun j u hu => (BlkAt.alloc_new wq (refCells y) RefT).cell hu)
        have HE := Lib.hid hE
        have hsE := hE.size
        clear hE
        go_region_law (refine step_append_grow (v := .slice a1 (leftK L x.rev rev k).length n1) (by rfl) _ _ 25 (by rfl) Try.underlying25 _ _ infoRef rfl (by decide) (by rfl) (by first | exact HGa.out | exact HGa.out.drew | exact HGa.out.drew.drew | exact HGa.out.drew.drew.drew | exact HGa.out.drew.drew.drew.drew) (by simp; omega) y rfl (ref_one y) wq.heap.size (by rfl) (by intro j u hu; simpa using HRa.out j u hu) (by unfold maxLen; omega) (by omega) ?_; intro v2 w2 hG2 hg2; obtain ⟨a2, n2, rfl⟩ := hG2.slice; (try have hg2 := grown_undrew hg2); (try have hg2 := grown_undrew hg2); (try have hg2 := grown_undrew hg2); (try have hg2 := grown_undrew hg2); obtain ⟨m5, hC2⟩ := HE.out.more (.cells #[.int .i64 y.rev, .int .i64 y.cr, .int .i64 y.ver, .bool y.gone] RefT) hG2 hg2; have q5 := m5.cell (i := 0) rfl; have f5 := m5.frozen 0; have HC2 := Lib.hid hC2; clear hG2 hg2 m5 hC2)
        all_goals
          have hx := HC2.out
          simp only [List.length_append, List.length_cons, List.length_nil, Nat.zero_add] at hx
          have HX := Lib.hid hx
          clear hx HE HC2 HGa HRa c0 z0 z1 z2 z3 c5 c5a c0a q5 f5
          go_wp2
          go_roundw
          case rel => exact ⟨k + 1, _, hlt, by go_num, by rw [HS.out]; exact HX.out⟩
          case measure => simp [intOf]; omega
      · have dr : decide (rev < y.rev) = false := decide_eq_false hr
        by_cases hq : y.rev = x.rev
        · have dq : (y.rev == x.rev) = true := by rw [beq_iff_eq]; exact hq
          have HS : Hid (leftK L x.rev rev (k + 1) = leftK L x.rev rev k ++ [y]) := Lib.hid (by rw [hst, if_pos (by omega)])
          have HD := Lib.hid (fun n => hD.drew n)
          clear hst hr hq hD
          go_wp2_with (fail)
          go_quiet (fail)
          go_wp2_with (fail)
          have hE := HD.out nq
          obtain ⟨a1, n1, rfl⟩ := hE.row.slice
          have c0 : (wr.drewN nq).cell? _ = _ := c0
          have z0 : (wr.drewN nq).cell? _ = _ := z0
          have z1 : (wr.drewN nq).cell? _ = _ := z1
          have z2 : (wr.drewN nq).cell? _ = _ := z2
          have z3 : (wr.drewN nq).cell? _ = _ := z3
          have c5 := hE.k5.cell (i := 0) rfl
          clear HD c6
          generalize wr.drewN nq = wq at *
          have c5a := fun o => Grew.cell (alloc_below wq o) c5
          have c0a := fun o => Grew.cell (alloc_below wq o) c0
          have HGa := Lib.hid (hE.row.below (alloc_below wq (.cells #[.int .i64 y.rev, .int .i64 y.cr, .int .i64 y.ver, .bool y.gone] RefT)))
          have HRa : Hid (∀ j u, (refCells y)[j]? = some u → (wq.alloc (.cells #[.int .i64 y.rev, .int .i64 y.cr, .int .i64 y.ver, .bool y.gone] RefT)).cell? ⟨wq.heap.size, j, none⟩ = some u) := Lib.hid (fun j u hu => (BlkAt.alloc_new wq (refCells y) RefT).cell hu)
          have HE := Lib.hid hE
          have hsE := hE.size
          clear hE
          go_region_law (refine step_append_grow (v := .slice a1 (leftK L x.rev rev k).length n1) (by rfl) _ _ 25 (by rfl) Try.underlying25 _ _ infoRef rfl (by decide) (by rfl) (by first | exact HGa.out | exact HGa.out.drew | exact HGa.out.drew.drew | exact HGa.out.drew.drew.drew | exact HGa.out.drew.drew.drew.drew) (by simp; omega) y rfl (ref_one y) wq.heap.size (by rfl) (by intro j u hu; simpa using HRa.out j u hu) (by unfold maxLen; omega) (by omega) ?_; intro v2 w2 hG2 hg2; obtain ⟨a2, n2, rfl⟩ := hG2.slice; (try have hg2 := grown_undrew hg2); (try have hg2 := grown_undrew hg2); (try have hg2 := grown_undrew hg2); (try have hg2 := grown_undrew hg2); obtain ⟨m5, hC2⟩ := HE.out.more (.cells #[.int .i64 y.rev, .int .i64 y.cr, .int .i64 y.ver, .bool y.gone] RefT) hG2 hg2; have q5 := m5.cell (i := 0) rfl; have f5 := m5.frozen 0; have HC2 := Lib.hid hC2; clear hG2 hg2 m5 hC2)
          all_goals
            have hx := HC2.out
            simp only [List.length_append, List.length_cons, List.length_nil, Nat.zero_add] at hx
            have HX := Lib.hid hx
            clear hx HE HC2 HGa HRa c0 z0 z1 z2 z3 c5 c5a c0a q5 f5
            go_wp2
            go_roundw
            case rel => exact ⟨k + 1, _, hlt, by go_num, by rw [HS.out]; exact HX.out⟩
            case measure => simp [intOf]; omega
        · have dq : (y.rev == x.rev) = false := by rw [beq_eq_false_iff_ne]; exact hq
          have HS : Hid (leftK L x.rev rev (k + 1) = leftK L x.rev rev k) := Lib.hid (by rw [hst, if_neg (by omega), List.append_nil])
          have HD := Lib.hid (fun n => hD.drew n)
          clear hst hr hq hD
          go_wp2_with (fail)
          go_quiet (fail)
          go_wp2
          go_roundw
          case rel => exact ⟨k + 1, _, hlt, by go_num, by rw [HS.out]; exact HD.out _⟩
          case measure => simp [intOf]; omega
    · obtain rfl : k = L.length := by omega
      rw [leftK_all, ← HF.out] at hD
      obtain ⟨a1, n1, rfl⟩ := hD.row.slice
      have c50 := hD.k5.cell (i := 0) rfl
      have c51 := hD.k5.cell (i := 1) rfl
      have z0 := hD.k4.cell (i := 0) rfl
      have z1 := hD.k4.cell (i := 1) rfl
      have f0 := hD.k4.frozen 0
      have f1 := hD.k4.frozen 1
      have hsz : base ≤ wb.heap.size := by have := hD.in6; have := hD.lo6; omega
      obtain ⟨hM, hF1, hF2⟩ := ref_done (last := last) (hD.row.mono hsz) hbase hD.below hD.k4 (ref_other hD.row hD.k4)
      have hld := run_load_blk (P := Try.prog) hM _ Try.underlying27 rfl (by kernel_rfl)
      have HO := Lib.hid (fun g hg => show w.heap.size ≤ g by have := own_base hD.row g hg; have := hD.in6; have := hD.lo6; omega)
      have HM := Lib.hid hF1
      have HN := Lib.hid hF2
      clear hD hM hF1 hF2 HR HA HF c6
      go_wp2
      exact bodyPost_ret (v := .agg #[.slice a1 FL.length n1, .int .i64 last]) (results_cell Try.results12 _ _ _ ⟨w.heap.size + 1, 0, none⟩ _ (by rfl) hld) rfl ⟨_, rfl, HM.out, HO.out, HN.out⟩
end Go.Proofs.Ytnliapdhmjljiaa
