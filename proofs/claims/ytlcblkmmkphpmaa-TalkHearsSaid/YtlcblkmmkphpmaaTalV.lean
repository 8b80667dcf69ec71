/- The walks of the reference's taker: rang, ops, request. Printed by gen/genTalV.py. Conditions: as each theorem says. -/
import Derived.Test.YtlcblkmmkphpmaaTalU
import Derived.Test.YtlcblkmmkphpmaaTalF
namespace Go.Proofs.Ytlcblkmmkphpmaa
open Go.RowKit

/-- A thing under way in block k, laid since w0. -/
structure Mx (t q k : Nat) (T : TypeId) (r : Rd) (cs : List Value) (w0 w : World) : Prop where
  hs : Tq t q r w
  hk : BlkAt k T cs w
  hg : Gr2 q q w0 w
  ho : w0.heap.size ≤ k ∧ t < w0.heap.size ∧ q < w0.heap.size
section
variable {T : TypeId} {t q k j : Nat} {r r' : Rd} {cs zs : List Value} {w0 w w1 : World}
theorem mx_start (h : Tq t q r w0) (cs : List Value) (hk : k = w0.heap.size) : Mx t q k T r cs w0 (w0.alloc (.cells cs.toArray T)) := by
  subst hk
  have a := alloc_below w0 (.cells cs.toArray T)
  exact ⟨h.grew a, BlkAt.alloc_new w0 cs T, Gr2.of_below a, ⟨Nat.le_refl _, h.lt.1, h.lt.2⟩⟩
theorem Mx.call (h : Mx t q k T r cs w0 w) (hs : Tq t q r' w1) (g : Gr2 q q w w1) : Mx t q k T r' cs w0 w1 :=
  ⟨hs, g.blk h.hk (by have := h.ho; omega) (by have := h.ho; omega), h.hg.trans g, h.ho⟩
theorem Mx.set (h : Mx t q k T r cs w0 w) (o : Nat) (x : Value) : Mx t q k T r (cs.set o x) w0 (w.setCell ⟨k, o, none⟩ x) := by
  have g := grown_set w k o x
  have ho := h.ho
  exact ⟨h.hs.row g (fun e => by have := Option.some.inj e; omega) (fun e => by have := Option.some.inj e; omega), h.hk.set o x, h.hg.own g (by omega), ho⟩
theorem Mx.old (h : Mx t q k T r cs w0 w) {g : Nat} {T' : TypeId} {ds : List Value} (hb : BlkAt g T' ds w0) (hne : g ≠ q) : BlkAt g T' ds w := h.hg.blk hb hne hne
/-- The result's block j, laid ahead of w0, is written at the end. -/
theorem Mx.end_ (h : Mx t q k T r cs w0 w) (hw : Tq t q r' w1) (h0 : Gr2 q q w1 w0) (hj : w1.heap.size ≤ j) {wz : World} (g : w.grownBy wz (some j)) (hqj : q ≠ j) (htj : t ≠ j) : Tq t q r wz ∧ Gr2 q q w1 wz :=
  ⟨h.hs.row g (fun e => htj (Option.some.inj e)) (fun e => hqj (Option.some.inj e)), (h0.trans h.hg).own g hj⟩
variable {α : Type} {T' : TypeId} {n : Nat} {enc : α → List Value} {u : Value} {L : List α}
theorem Mx.row_start (h : Mx t q k T r cs w0 w) (hG : Grow T' n enc w.heap.size u L w1) : Grow T' n enc (k + 1) u L w1 := hG.mono (by have := h.hk.lt; omega)
theorem Mx.row_call (h : Mx t q k T r cs w0 w) (hG : Grow T' n enc (k + 1) u L w) (g : Gr2 q q w w1) : Grow T' n enc (k + 1) u L w1 := g.grow hG (by have := h.ho; omega) (by have := h.ho; omega)
/-- Behind an append to a row that lies behind k. -/
theorem Mx.row_app (h : Mx t q k T r cs w0 w) (o : Obj) (hG : Grow T' n enc (k + 1) u L w) (g : (w.alloc o).grownBy w1 u.ownBlock) : Mx t q k T r cs w0 w1 := by
  have hb := own_base hG
  have ho := h.ho
  have a := alloc_below w o
  exact ⟨(h.hs.grew a).row g (fun e => by have := hb _ e.symm; omega) (fun e => by have := hb _ e.symm; omega), (h.hk.grew a).grown g (fun e => by have := hb _ e.symm; omega), (h.hg.trans (Gr2.of_below a)).row g (fun i hi => by have := hb i hi; omega), ho⟩
end
theorem way_fst {α : Type} {c : Cod α} {r : Rd} {D : List α} {ri : Rd} (h : itemsR c.rd (manyR r).1 (manyR r).2 = (D, ri)) : c.list.rd r = (D, ri) := h
set_option maxRecDepth 100000 in
set_option maxHeartbeats 1000000 in
theorem rrang_cells (t q : Nat) (htq : t ≠ q) (r0 r1 r2 r3 r4 r5 r6 r7 : Rd) (a0 : Byt) (a1 : Byt) (a2 : Int) (a3 : Int) (a4 : Bool) (a5 : Bool) (a6 : Bool) (hl : Bd r0) (e0 : textR r0 = (a0, r1)) (e1 : textR r1 = (a1, r2)) (e2 : numR r2 = (a2, r3)) (e3 : numR r3 = (a3, r4)) (e4 : flagR r4 = (a4, r5)) (e5 : flagR r5 = (a5, r6)) (e6 : flagR r6 = (a6, r7)) (w : World) (h : Tq t q r0 w) :
    Calls Try.prog 34 #[.pointer (some ⟨t, 0, none⟩)] w fun e w' => e = .returned (.agg #[.string (bs a0), .string (bs a1), .int .i64 a2, .int .i64 a3, .bool a4, .bool a5, .bool a6]) ∧ Tq t q r7 w' ∧ Gr2 q q w w' := by
  have l1 := bd_text e0 hl
  have H0 := Lib.hid (fun X hX => rtext_at t q htq r0 hl e0 X hX)
  have l2 := bd_text e1 l1
  have H1 := Lib.hid (fun X hX => rtext_at t q htq r1 l1 e1 X hX)
  have l3 := bd_num e2 l2
  have H2 := Lib.hid (fun X hX => rnum_at t q htq r2 l2 e2 X hX)
  have l4 := bd_num e3 l3
  have H3 := Lib.hid (fun X hX => rnum_at t q htq r3 l3 e3 X hX)
  have l5 := bd_flag e4 l4
  have H4 := Lib.hid (fun X hX => rflag_at t q htq r4 l4 e4 X hX)
  have l6 := bd_flag e5 l5
  have H5 := Lib.hid (fun X hX => rflag_at t q htq r5 l5 e5 X hX)
  have H6 := Lib.hid (fun X hX => rflag_at t q htq r6 l6 e6 X hX)
  have HS := Lib.hid h
  have h0 : Tq t q r0 (w.alloc (.cells #[.string ⟨#[]⟩, .string ⟨#[]⟩, .int .i64 0, .int .i64 0, .bool false, .bool false, .bool false] 28)) := h.grew (alloc_below w _)
  have hM0 : Mx t q (w.heap.size + 1) 28 r0 [.string ⟨#[]⟩, .string ⟨#[]⟩, .int .i64 0, .int .i64 0, .bool false, .bool false, .bool false] (w.alloc (.cells #[.string ⟨#[]⟩, .string ⟨#[]⟩, .int .i64 0, .int .i64 0, .bool false, .bool false, .bool false] 28)) ((w.alloc (.cells #[.string ⟨#[]⟩, .string ⟨#[]⟩, .int .i64 0, .int .i64 0, .bool false, .bool false, .bool false] 28)).alloc (.cells #[.string ⟨#[]⟩, .string ⟨#[]⟩, .int .i64 0, .int .i64 0, .bool false, .bool false, .bool false] 28)) := mx_start h0 [.string ⟨#[]⟩, .string ⟨#[]⟩, .int .i64 0, .int .i64 0, .bool false, .bool false, .bool false] (size1 _ _)
  have HJ := Lib.hid (BlkAt.alloc_new w [.string ⟨#[]⟩, .string ⟨#[]⟩, .int .i64 0, .int .i64 0, .bool false, .bool false, .bool false] 28)
  have HQJ := Lib.hid (show q ≠ w.heap.size ∧ t ≠ w.heap.size by have := h.lt; omega)
  have ct := hM0.hs.c0
  have HM0 := Lib.hid hM0
  clear h h0 hM0 hl l1 l2 l3 l4 l5 l6 e0 e1 e2 e3 e4 e5 e6
  go_enter Try.func34, Try.ntmps34
  go_wp2_with (first
    | (go_at_call 59; (with_reducible refine (H0.out _ HM0.out.hs).mono ?_); rintro e w0 ⟨rfl, hs, hg⟩; have hX := HM0.out.call hs hg; have d0 := BlkAt.cell hX.hk (i := 0) rfl; have f0 := BlkAt.frozen hX.hk 0; have hM : Mx t q (w.heap.size + 1) 28 r1 [.string (bs a0), .string ⟨#[]⟩, .int .i64 0, .int .i64 0, .bool false, .bool false, .bool false] (w.alloc (.cells #[.string ⟨#[]⟩, .string ⟨#[]⟩, .int .i64 0, .int .i64 0, .bool false, .bool false, .bool false] 28)) (w0.setCell ⟨(w.heap.size + 1), 0, none⟩ (.string (bs a0))) := (hX.set 0 (.string (bs a0))); have ct := hM.hs.c0; have HM1 := Lib.hid hM; clear hM hX hs hg)
    | (go_at_call 59; (with_reducible refine (H1.out _ HM1.out.hs).mono ?_); rintro e w1 ⟨rfl, hs, hg⟩; have hX := HM1.out.call hs hg; have d1 := BlkAt.cell hX.hk (i := 1) rfl; have f1 := BlkAt.frozen hX.hk 1; have hM : Mx t q (w.heap.size + 1) 28 r2 [.string (bs a0), .string (bs a1), .int .i64 0, .int .i64 0, .bool false, .bool false, .bool false] (w.alloc (.cells #[.string ⟨#[]⟩, .string ⟨#[]⟩, .int .i64 0, .int .i64 0, .bool false, .bool false, .bool false] 28)) (w1.setCell ⟨(w.heap.size + 1), 1, none⟩ (.string (bs a1))) := (hX.set 1 (.string (bs a1))); have ct := hM.hs.c0; have HM2 := Lib.hid hM; clear hM hX hs hg)
    | (go_at_call 32; (with_reducible refine (H2.out _ HM2.out.hs).mono ?_); rintro e w2 ⟨rfl, hs, hg⟩; have hX := HM2.out.call hs hg; have d2 := BlkAt.cell hX.hk (i := 2) rfl; have f2 := BlkAt.frozen hX.hk 2; have hM : Mx t q (w.heap.size + 1) 28 r3 [.string (bs a0), .string (bs a1), .int .i64 a2, .int .i64 0, .bool false, .bool false, .bool false] (w.alloc (.cells #[.string ⟨#[]⟩, .string ⟨#[]⟩, .int .i64 0, .int .i64 0, .bool false, .bool false, .bool false] 28)) (w2.setCell ⟨(w.heap.size + 1), 2, none⟩ (.int .i64 a2)) := (hX.set 2 (.int .i64 a2)); have ct := hM.hs.c0; have HM3 := Lib.hid hM; clear hM hX hs hg)
    | (go_at_call 32; (with_reducible refine (H3.out _ HM3.out.hs).mono ?_); rintro e w3 ⟨rfl, hs, hg⟩; have hX := HM3.out.call hs hg; have d3 := BlkAt.cell hX.hk (i := 3) rfl; have f3 := BlkAt.frozen hX.hk 3; have hM : Mx t q (w.heap.size + 1) 28 r4 [.string (bs a0), .string (bs a1), .int .i64 a2, .int .i64 a3, .bool false, .bool false, .bool false] (w.alloc (.cells #[.string ⟨#[]⟩, .string ⟨#[]⟩, .int .i64 0, .int .i64 0, .bool false, .bool false, .bool false] 28)) (w3.setCell ⟨(w.heap.size + 1), 3, none⟩ (.int .i64 a3)) := (hX.set 3 (.int .i64 a3)); have ct := hM.hs.c0; have HM4 := Lib.hid hM; clear hM hX hs hg)
    | (go_at_call 33; (with_reducible refine (H4.out _ HM4.out.hs).mono ?_); rintro e w4 ⟨rfl, hs, hg⟩; have hX := HM4.out.call hs hg; have d4 := BlkAt.cell hX.hk (i := 4) rfl; have f4 := BlkAt.frozen hX.hk 4; have hM : Mx t q (w.heap.size + 1) 28 r5 [.string (bs a0), .string (bs a1), .int .i64 a2, .int .i64 a3, .bool a4, .bool false, .bool false] (w.alloc (.cells #[.string ⟨#[]⟩, .string ⟨#[]⟩, .int .i64 0, .int .i64 0, .bool false, .bool false, .bool false] 28)) (w4.setCell ⟨(w.heap.size + 1), 4, none⟩ (.bool a4)) := (hX.set 4 (.bool a4)); have ct := hM.hs.c0; have HM5 := Lib.hid hM; clear hM hX hs hg)
    | (go_at_call 33; (with_reducible refine (H5.out _ HM5.out.hs).mono ?_); rintro e w5 ⟨rfl, hs, hg⟩; have hX := HM5.out.call hs hg; have d5 := BlkAt.cell hX.hk (i := 5) rfl; have f5 := BlkAt.frozen hX.hk 5; have hM : Mx t q (w.heap.size + 1) 28 r6 [.string (bs a0), .string (bs a1), .int .i64 a2, .int .i64 a3, .bool a4, .bool a5, .bool false] (w.alloc (.cells #[.string ⟨#[]⟩, .string ⟨#[]⟩, .int .i64 0, .int .i64 0, .bool false, .bool false, .bool false] 28)) (w5.setCell ⟨(w.heap.size + 1), 5, none⟩ (.bool a5)) := (hX.set 5 (.bool a5)); have ct := hM.hs.c0; have HM6 := Lib.hid hM; clear hM hX hs hg)
    | (go_at_call 33; (with_reducible refine (H6.out _ HM6.out.hs).mono ?_); rintro e w6 ⟨rfl, hs, hg⟩; have hX := HM6.out.call hs hg; have d6 := BlkAt.cell hX.hk (i := 6) rfl; have f6 := BlkAt.frozen hX.hk 6; have hM : Mx t q (w.heap.size + 1) 28 r7 [.string (bs a0), .string (bs a1), .int .i64 a2, .int .i64 a3, .bool a4, .bool a5, .bool a6] (w.alloc (.cells #[.string ⟨#[]⟩, .string ⟨#[]⟩, .int .i64 0, .int .i64 0, .bool false, .bool false, .bool false] 28)) (w6.setCell ⟨(w.heap.size + 1), 6, none⟩ (.bool a6)) := (hX.set 6 (.bool a6)); have ct := hM.hs.c0; have y0 := BlkAt.cell hM.hk (i := 0) rfl; have y1 := BlkAt.cell hM.hk (i := 1) rfl; have y2 := BlkAt.cell hM.hk (i := 2) rfl; have y3 := BlkAt.cell hM.hk (i := 3) rfl; have y4 := BlkAt.cell hM.hk (i := 4) rfl; have y5 := BlkAt.cell hM.hk (i := 5) rfl; have y6 := BlkAt.cell hM.hk (i := 6) rfl; have HM7 := Lib.hid hM; clear hM hX hs hg)
    | (refine wpList_store_blk (by rfl) 28 _ _ (by rfl) w.heap.size 28 [.string ⟨#[]⟩, .string ⟨#[]⟩, .int .i64 0, .int .i64 0, .bool false, .bool false, .bool false] [.string (bs a0), .string (bs a1), .int .i64 a2, .int .i64 a3, .bool a4, .bool a5, .bool a6] (by rfl) (by rfl) (HM7.out.old HJ.out (Ne.symm HQJ.out.1)) rfl (by kernel_rfl) (by intro u hu; simp only [List.mem_cons, List.not_mem_nil, or_false] at hu; rcases hu with rfl | rfl | rfl | rfl | rfl | rfl | rfl <;> rfl) ?_; intro wz hk hg; have hld := run_load_blk (P := Try.prog) hk _ Try.underlying28 rfl (by kernel_rfl)))
  exact bodyPost_ret (v := .agg #[.string (bs a0), .string (bs a1), .int .i64 a2, .int .i64 a3, .bool a4, .bool a5, .bool a6]) (results_cell Try.results34 _ _ _ ⟨w.heap.size, 0, none⟩ _ (by rfl) hld) rfl ⟨rfl, HM7.out.end_ HS.out (Gr2.of_below (alloc_below w _)) (Nat.le_refl _) hg HQJ.out.1 HQJ.out.2⟩
theorem rrang_at (t q : Nat) (htq : t ≠ q) (r0 : Rd) (hl : Bd r0) {x : Rg} {rz : Rd} (hx : rgC.rd r0 = (x, rz)) (w : World) (h : Tq t q r0 w) :
    Calls Try.prog 34 #[.pointer (some ⟨t, 0, none⟩)] w fun e w' => e = .returned (.agg (rgV x).toArray) ∧ Tq t q rz w' ∧ Gr2 q q w w' := by
  obtain ⟨a0, r1, e0⟩ : ∃ a s, textR r0 = (a, s) := ⟨_, _, rfl⟩
  obtain ⟨a1, r2, e1⟩ : ∃ a s, textR r1 = (a, s) := ⟨_, _, rfl⟩
  obtain ⟨a2, r3, e2⟩ : ∃ a s, numR r2 = (a, s) := ⟨_, _, rfl⟩
  obtain ⟨a3, r4, e3⟩ : ∃ a s, numR r3 = (a, s) := ⟨_, _, rfl⟩
  obtain ⟨a4, r5, e4⟩ : ∃ a s, flagR r4 = (a, s) := ⟨_, _, rfl⟩
  obtain ⟨a5, r6, e5⟩ : ∃ a s, flagR r5 = (a, s) := ⟨_, _, rfl⟩
  obtain ⟨a6, r7, e6⟩ : ∃ a s, flagR r6 = (a, s) := ⟨_, _, rfl⟩
  have hh : rgC.rd r0 = (⟨a0, a1, a2, a3, a4, a5, a6⟩, r7) := iso_rd (pair_rd e0 (pair_rd e1 (pair_rd e2 (pair_rd e3 (pair_rd e4 (pair_rd e5 e6)))))) _ _ _ _
  rw [hh] at hx
  injection hx with h1 h2
  subst h1 h2
  exact rrang_cells t q htq r0 r1 r2 r3 r4 r5 r6 r7 a0 a1 a2 a3 a4 a5 a6 hl e0 e1 e2 e3 e4 e5 e6 w h
set_option maxRecDepth 100000 in
set_option maxHeartbeats 4000000 in
theorem rops_any (t q : Nat) (htq : t ≠ q) (r : Rd) (hl : Bd r) (w : World) (h : Tq t q r w) :
    Calls Try.prog 68 #[.pointer (some ⟨t, 0, none⟩)] w fun e w' => ∃ u, e = .returned u ∧ Grow OpT 10 opV w.heap.size u (opC.list.rd r).1 w' ∧ Tq t q (opC.list.rd r).2 w' ∧ Gr2 q q w w' := by
  have hlv := h.lt
  have HMN := Lib.hid (rmany_any t q htq r hl w h)
  have hL : opC.list.rd r = itemsR opC.rd (manyR r).1 (manyR r).2 := rfl
  rw [hL]
  have hl2 : Bd (manyR r).2 := Nat.le_trans (many_len r) hl
  have hm3 := (many_is r).2.2
  clear h hl hL
  generalize manyR r = mr at *
  obtain ⟨N, r2⟩ := mr
  simp only at HMN hm3 hl2 ⊢
  go_enter Try.func68, Try.ntmps68
  go_wp2_with (go_at_call 57; (with_reducible refine HMN.out.mono ?_); rintro e w1 ⟨rfl, hs, hg⟩; have HT2 := Lib.hid hs; have HG2 := Lib.hid hg; clear hs hg)
  go_loopw [3, 5] (fun v3 v5 W => ∃ (i : Nat) (D : List Opr) (ri : Rd), v5 = .int .i64 (i : Int) ∧ Grow OpT 10 opV w.heap.size v3 D W ∧ Tq t q ri W ∧ Gr2 q q w W ∧ Bd ri ∧ Way opC (N : Int) N r2 i D ri) (fun _ v5 _ => N - (intOf v5).toNat)
  case atStart => exact ⟨0, [], r2, rfl, Grow.nil _, HT2.out, HG2.out, hl2, way_start _ _ _ _ (fun _ => rfl)⟩
  case round =>
    obtain ⟨i, D, ri, rfl, hG, hT, hg2, hbd, hway⟩ := hrel
    obtain ⟨a0', c0', hv6⟩ := hG.slice
    rw [hway.len] at hv6
    subst hv6
    have HG := Lib.hid hG
    have HT := Lib.hid hT
    have HGg := Lib.hid hg2
    have HWY := Lib.hid hway
    have HDl := Lib.hid hway.len
    have hle := hway.le
    clear hG hg2 hway HT2 HG2 HMN
    have HWL := Lib.hid (rwell_any t q ri wr hT)
    by_cases hlt : i < N
    · have q0 : decide (i < N) = true := decide_eq_true hlt
      by_cases he : ri.e = 0
      · rw [decide_eq_true he] at HWL
        obtain ⟨a0, r1, e0⟩ : ∃ a s, numR ri = (a, s) := ⟨_, _, rfl⟩
        obtain ⟨a1, r2, e1⟩ : ∃ a s, rgC.rd r1 = (a, s) := ⟨_, _, rfl⟩
        obtain ⟨a2, r3, e2⟩ : ∃ a s, textR r2 = (a, s) := ⟨_, _, rfl⟩
        obtain ⟨a3, r4, e3⟩ : ∃ a s, numR r3 = (a, s) := ⟨_, _, rfl⟩
        have l1 := bd_num e0 hbd
        have H0 := Lib.hid (fun X hX => rnum_at t q htq ri hbd e0 X hX)
        have l2 := bd_rang e1 l1
        have H1 := Lib.hid (fun X hX => rrang_at t q htq r1 l1 e1 X hX)
        unfold rgV at H1
        have l3 := bd_text e2 l2
        have H2 := Lib.hid (fun X hX => rtext_at t q htq r2 l2 e2 X hX)
        have H3 := Lib.hid (fun X hX => rnum_at t q htq r3 l3 e3 X hX)
        have l4 := bd_num e3 l3
        have hx : opC.rd ri = (⟨a0, a1, a2, a3⟩, r4) := iso_rd (pair_rd e0 (pair_rd e1 (pair_rd e2 e3))) _ _ _ _
        have hWY := Lib.hid (HWY.out.next he hlt hx)
        have HBD := Lib.hid l4
        have hM0 : Mx t q wr.heap.size 89 ri [.int .i64 0, .string ⟨#[]⟩, .string ⟨#[]⟩, .int .i64 0, .int .i64 0, .bool false, .bool false, .bool false, .string ⟨#[]⟩, .int .i64 0] wr (wr.alloc (.cells #[.int .i64 0, .string ⟨#[]⟩, .string ⟨#[]⟩, .int .i64 0, .int .i64 0, .bool false, .bool false, .bool false, .string ⟨#[]⟩, .int .i64 0] 89)) := mx_start hT [.int .i64 0, .string ⟨#[]⟩, .string ⟨#[]⟩, .int .i64 0, .int .i64 0, .bool false, .bool false, .bool false, .string ⟨#[]⟩, .int .i64 0] rfl
        have ct := hM0.hs.c0
        have HM0 := Lib.hid hM0
        clear hM0 hx HWY e0 e1 e2 e3 l1 l2 l3 l4 hT he hbd
        go_upto_region 11 with (first
          | (go_at_call 58; (with_reducible refine HWL.out.mono ?_); rintro e ww ⟨rfl, hw⟩; have hw := hw.symm; subst hw; clear HWL)
          | (go_at_call 32; (with_reducible refine (H0.out _ HM0.out.hs).mono ?_); rintro e w0 ⟨rfl, hs, hg⟩; have hX := HM0.out.call hs hg; have d0 := BlkAt.cell hX.hk (i := 0) rfl; have f0 := BlkAt.frozen hX.hk 0; have hM : Mx t q wr.heap.size 89 r1 [.int .i64 a0, .string ⟨#[]⟩, .string ⟨#[]⟩, .int .i64 0, .int .i64 0, .bool false, .bool false, .bool false, .string ⟨#[]⟩, .int .i64 0] wr (w0.setCell ⟨wr.heap.size, 0, none⟩ (.int .i64 a0)) := (hX.set 0 (.int .i64 a0)); have ct := hM.hs.c0; have HM1 := Lib.hid hM; clear hM hX hs hg)
          | (go_at_call 34; (with_reducible refine (H1.out _ HM1.out.hs).mono ?_); rintro e w1 ⟨rfl, hs, hg⟩; have hX := HM1.out.call hs hg; have d1 := BlkAt.cell hX.hk (i := 1) rfl; have f1 := BlkAt.frozen hX.hk 1; have d2 := BlkAt.cell hX.hk (i := 2) rfl; have f2 := BlkAt.frozen hX.hk 2; have d3 := BlkAt.cell hX.hk (i := 3) rfl; have f3 := BlkAt.frozen hX.hk 3; have d4 := BlkAt.cell hX.hk (i := 4) rfl; have f4 := BlkAt.frozen hX.hk 4; have d5 := BlkAt.cell hX.hk (i := 5) rfl; have f5 := BlkAt.frozen hX.hk 5; have d6 := BlkAt.cell hX.hk (i := 6) rfl; have f6 := BlkAt.frozen hX.hk 6; have d7 := BlkAt.cell hX.hk (i := 7) rfl; have f7 := BlkAt.frozen hX.hk 7; have hM : Mx t q wr.heap.size 89 r2 [.int .i64 a0, .string (bs a1.key), .string (bs a1.end_), .int .i64 a1.rev, .int .i64 a1.limit, .bool a1.keys, .bool a1.count, .bool a1.desc, .string ⟨#[]⟩, .int .i64 0] wr (((((((w1.setCell ⟨wr.heap.size, 1, none⟩ (.string (bs a1.key))).setCell ⟨wr.heap.size, 2, none⟩ (.string (bs a1.end_))).setCell ⟨wr.heap.size, 3, none⟩ (.int .i64 a1.rev)).setCell ⟨wr.heap.size, 4, none⟩ (.int .i64 a1.limit)).setCell ⟨wr.heap.size, 5, none⟩ (.bool a1.keys)).setCell ⟨wr.heap.size, 6, none⟩ (.bool a1.count)).setCell ⟨wr.heap.size, 7, none⟩ (.bool a1.desc)) := (((((((hX.set 1 (.string (bs a1.key))).set 2 (.string (bs a1.end_))).set 3 (.int .i64 a1.rev)).set 4 (.int .i64 a1.limit)).set 5 (.bool a1.keys)).set 6 (.bool a1.count)).set 7 (.bool a1.desc)); have ct := hM.hs.c0; have HM2 := Lib.hid hM; clear hM hX hs hg)
          | (go_at_call 59; (with_reducible refine (H2.out _ HM2.out.hs).mono ?_); rintro e w2 ⟨rfl, hs, hg⟩; have hX := HM2.out.call hs hg; have d8 := BlkAt.cell hX.hk (i := 8) rfl; have f8 := BlkAt.frozen hX.hk 8; have hM : Mx t q wr.heap.size 89 r3 [.int .i64 a0, .string (bs a1.key), .string (bs a1.end_), .int .i64 a1.rev, .int .i64 a1.limit, .bool a1.keys, .bool a1.count, .bool a1.desc, .string (bs a2), .int .i64 0] wr (w2.setCell ⟨wr.heap.size, 8, none⟩ (.string (bs a2))) := (hX.set 8 (.string (bs a2))); have ct := hM.hs.c0; have HM3 := Lib.hid hM; clear hM hX hs hg)
          | (go_at_call 32; (with_reducible refine (H3.out _ HM3.out.hs).mono ?_); rintro e w3 ⟨rfl, hs, hg⟩; have hX := HM3.out.call hs hg; have d9 := BlkAt.cell hX.hk (i := 9) rfl; have f9 := BlkAt.frozen hX.hk 9; have hM : Mx t q wr.heap.size 89 r4 [.int .i64 a0, .string (bs a1.key), .string (bs a1.end_), .int .i64 a1.rev, .int .i64 a1.limit, .bool a1.keys, .bool a1.count, .bool a1.desc, .string (bs a2), .int .i64 a3] wr (w3.setCell ⟨wr.heap.size, 9, none⟩ (.int .i64 a3)) := (hX.set 9 (.int .i64 a3)); have ct := hM.hs.c0; have y0 := BlkAt.cell hM.hk (i := 0) rfl; have y1 := BlkAt.cell hM.hk (i := 1) rfl; have y2 := BlkAt.cell hM.hk (i := 2) rfl; have y3 := BlkAt.cell hM.hk (i := 3) rfl; have y4 := BlkAt.cell hM.hk (i := 4) rfl; have y5 := BlkAt.cell hM.hk (i := 5) rfl; have y6 := BlkAt.cell hM.hk (i := 6) rfl; have y7 := BlkAt.cell hM.hk (i := 7) rfl; have y8 := BlkAt.cell hM.hk (i := 8) rfl; have y9 := BlkAt.cell hM.hk (i := 9) rfl; have HM4 := Lib.hid hM; clear hM hX hs hg))
        generalize (World.setCell w3 ⟨wr.heap.size, 9, none⟩ (.int .i64 a3)) = wq at *
        have hGr := HM4.out.hg.grow HG.out hlv.2 hlv.2
        have HG4 := Lib.hid (HGg.out.trans HM4.out.hg)
        go_wp2_with (at_builtin; refine wpList_append_grow rfl _ _ _ rfl Try.underlying24 _ _ infoOp rfl (by decide) rfl hGr HG4.out.size ⟨a0, a1, a2, a3⟩ _ rfl rfl (op_one ⟨a0, a1, a2, a3⟩) rfl (by rw [HDl.out]; unfold maxLen; omega) (by rw [HDl.out]; omega) ?_; intro v2 w6 hG6 hg6; have HG6 := Lib.hid hG6; have hb6 := own_base hGr; have HT6 := Lib.hid ((HM4.out.hs.grew (alloc_below _ _)).row hg6 (fun e => by have := hb6 _ e.symm; omega) (fun e => by have := hb6 _ e.symm; omega)); have HG7 := Lib.hid ((HG4.out.trans (Gr2.of_below (alloc_below _ _))).row hg6 (fun k hk => hb6 k hk)); clear hG6 hg6 hGr hb6)
        go_roundw
        case rel => exact ⟨i + 1, _, r4, by go_num, HG6.out, HT6.out, HG7.out, HBD.out, hWY.out⟩
        case measure => simp [intOf]; omega
      · as_aux_lemma =>
        rw [decide_eq_false he] at HWL
        have HD := Lib.hid (HWY.out.done (.inl he))
        clear HWY
        go_wp2_with (go_at_call 58; (with_reducible refine HWL.out.mono ?_); rintro e ww ⟨rfl, hw⟩; have hw := hw.symm; subst hw)
        go_ret
        exact ⟨_, rfl, by rw [HD.out]; exact HG.out, by rw [HD.out]; exact HT.out, HGg.out⟩
    · as_aux_lemma =>
      have q0 : decide (i < N) = false := decide_eq_false hlt
      have HD := Lib.hid (HWY.out.done (.inr hlt))
      clear HWY HWL
      go_wp2_with (fail)
      go_ret
      exact ⟨_, rfl, by rw [HD.out]; exact HG.out, by rw [HD.out]; exact HT.out, HGg.out⟩
theorem rops_at (t q : Nat) (htq : t ≠ q) (r : Rd) (hl : Bd r) {L : List Opr} {r1 : Rd} (hn : opC.list.rd r = (L, r1)) (w : World) (h : Tq t q r w) :
    Calls Try.prog 68 #[.pointer (some ⟨t, 0, none⟩)] w fun e w' => ∃ u, e = .returned u ∧ Grow OpT 10 opV w.heap.size u L w' ∧ Tq t q r1 w' ∧ Gr2 q q w w' := by
  have := rops_any t q htq r hl w h
  rw [hn] at this
  exact this
end Go.Proofs.Ytlcblkmmkphpmaa
