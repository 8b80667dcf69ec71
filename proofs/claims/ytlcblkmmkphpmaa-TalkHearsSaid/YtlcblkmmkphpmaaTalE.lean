/- The walks of talk's reader: answer, request, things of Answer. Printed by gen/genTalE.py. Conditions: as each theorem says. -/
import Derived.Test.YtlcblkmmkphpmaaTalD
import Derived.Test.YtlcblkmmkphpmaaTalY
namespace Go.Proofs.Ytlcblkmmkphpmaa
open Go.RowKit

abbrev CpT : TypeId := 75
abbrev OpT : TypeId := 89
abbrev KvT : TypeId := 101
abbrev AnT : TypeId := 99
section
variable {α : Type} {T' : TypeId} {n : Nat} {enc : α → List Value} {u : Value} {L : List α} {T : TypeId} {v q k j : Nat} {r r' : Rd} {cs zs : List Value} {w0 w w1 : World}
theorem Mk.row_start (h : Mk v q k j T r cs zs w0 w) (hG : Grow T' n enc w.heap.size u L w1) : Grow T' n enc (k + 1) u L w1 := hG.mono (by have := h.hk.lt; omega)
theorem Mk.row_call (h : Mk v q k j T r cs zs w0 w) (hG : Grow T' n enc (k + 1) u L w) (g : Gr2 q v w w1) : Grow T' n enc (k + 1) u L w1 := g.grow hG (by have := h.ho; omega) (by have := h.ho; omega)
theorem Mk.row_set (hG : Grow T' n enc (k + 1) u L w) (o : Nat) (x : Value) : Grow T' n enc (k + 1) u L (w.setCell ⟨k, o, none⟩ x) := hG.past (by omega) o x
theorem Mk.row_end (h : Mk v q k j T r cs zs w0 w) (hG : Grow T' n enc (k + 1) u L w) (g : w.grownBy w1 (some j)) : Grow T' n enc w0.heap.size u L w1 := (hG.kept1 g (by have := h.ho; omega)).mono (by have := h.ho; omega)
end
theorem bd_kvs {r r1 : Rd} {n : List Kvr} (hn : kvC.list.rd r = (n, r1)) (hl : Bd r) : Bd r1 := bd_any (list_shr kvC_shr) hn hl
theorem bd_cps {r r1 : Rd} {n : List Cp} (hn : cpC.list.rd r = (n, r1)) (hl : Bd r) : Bd r1 := bd_any (list_shr cpC_shr) hn hl
theorem bd_ops {r r1 : Rd} {n : List Opr} (hn : opC.list.rd r = (n, r1)) (hl : Bd r) : Bd r1 := bd_any (list_shr opC_shr) hn hl
theorem tkvs_at (v q : Nat) (hvq : v ≠ q) (r : Rd) (hl : Bd r) {L : List Kvr} {r1 : Rd} (hn : kvC.list.rd r = (L, r1)) (w : World) (h : Tk v q r w) :
    Calls Try.prog 77 #[.pointer (some ⟨v, 0, none⟩), .func (.func 78) #[.pointer (some ⟨v, 0, none⟩)] #[]] w fun e w' => ∃ u, e = .returned u ∧ Grow KvT 6 kvV w.heap.size u L w' ∧ Tk v q r1 w' ∧ Gr2 q v w w' := by
  have := tthingsKv_any v q hvq r hl w h
  rw [hn] at this
  exact this
theorem tcps_at (v q : Nat) (hvq : v ≠ q) (r : Rd) (hl : Bd r) {L : List Cp} {r1 : Rd} (hn : cpC.list.rd r = (L, r1)) (w : World) (h : Tk v q r w) :
    Calls Try.prog 63 #[.pointer (some ⟨v, 0, none⟩), .func (.func 64) #[.pointer (some ⟨v, 0, none⟩)] #[]] w fun e w' => ∃ u, e = .returned u ∧ Grow CpT 5 cpV w.heap.size u L w' ∧ Tk v q r1 w' ∧ Gr2 q v w w' := by
  have := tthingsCompare_any v q hvq r hl w h
  rw [hn] at this
  exact this
theorem tops_at (v q : Nat) (hvq : v ≠ q) (r : Rd) (hl : Bd r) {L : List Opr} {r1 : Rd} (hn : opC.list.rd r = (L, r1)) (w : World) (h : Tk v q r w) :
    Calls Try.prog 65 #[.pointer (some ⟨v, 0, none⟩), .func (.func 66) #[.pointer (some ⟨v, 0, none⟩)] #[]] w fun e w' => ∃ u, e = .returned u ∧ Grow OpT 10 opV w.heap.size u L w' ∧ Tk v q r1 w' ∧ Gr2 q v w w' := by
  have := tthingsOp_any v q hvq r hl w h
  rw [hn] at this
  exact this
set_option maxRecDepth 100000 in
set_option maxHeartbeats 2000000 in
theorem tanswer_cells (v q : Nat) (hvq : v ≠ q) (r0 r1 r2 r3 r4 : Rd) (a0 : Int) (a1 : List Kvr) (a2 : Int) (a3 : Bool) (hl : Bd r0) (e0 : numR r0 = (a0, r1)) (e1 : kvC.list.rd r1 = (a1, r2)) (e2 : numR r2 = (a2, r3)) (e3 : flagR r3 = (a3, r4)) (w : World) (h : Tk v q r0 w) :
    Calls Try.prog 56 #[.pointer (some ⟨v, 0, none⟩)] w fun e w' => ∃ u1, e = .returned (.agg #[.int .i64 a0, u1, .int .i64 a2, .bool a3]) ∧ (Grow KvT 6 kvV w.heap.size u1 a1 w') ∧ Tk v q r4 w' ∧ Gr2 q v w w' := by
  have l1 := bd_num e0 hl
  have H0 := Lib.hid (fun X hX => tnum_at v q hvq r0 hl e0 X hX)
  have l2 := bd_kvs e1 l1
  have H1 := Lib.hid (fun X hX => tkvs_at v q hvq r1 l1 e1 X hX)
  have l3 := bd_num e2 l2
  have H2 := Lib.hid (fun X hX => tnum_at v q hvq r2 l2 e2 X hX)
  have H3 := Lib.hid (fun X hX => tflag_at v q hvq r3 l3 e3 X hX)
  have HS := Lib.hid h
  have HA := Lib.hid (h.grew (alloc_below w (.cells #[.int .i64 0, .slice none 0 0, .int .i64 0, .bool false] 99)))
  clear h hl l1 l2 l3 e0 e1 e2 e3
  go_enter Try.func56, Try.ntmps56
  go_wp2_with (first
    | (go_at_call 27; (with_reducible refine (H0.out _ HA.out).mono ?_); rintro e w1 ⟨rfl, hs, hg⟩; have HM1 : Hid (Mk v q w1.heap.size w.heap.size 99 r1 [.int .i64 a0, .slice none 0 0, .int .i64 0, .bool false] [.int .i64 0, .slice none 0 0, .int .i64 0, .bool false] w (w1.alloc (.cells #[.int .i64 a0, .slice none 0 0, .int .i64 0, .bool false] 99))) := Lib.hid (mk_start HS.out hs hg [.int .i64 a0, .slice none 0 0, .int .i64 0, .bool false]); clear hs hg)
    | (go_at_call 77; (with_reducible refine (H1.out _ HM1.out.hs).mono ?_); rintro e w2 ⟨u1, rfl, hG, hs, hg⟩; obtain ⟨b1, c1, rfl⟩ := hG.slice; have hX := HM1.out.call hs hg; have hR1 := Mk.row_set (HM1.out.row_start hG) 1 (.slice b1 a1.length c1); clear hG; clear hs hg; have d1 := BlkAt.cell hX.hk (i := 1) rfl; have f1 := BlkAt.frozen hX.hk 1; have hM : Mk v q w1.heap.size w.heap.size 99 r2 [.int .i64 a0, .slice b1 a1.length c1, .int .i64 0, .bool false] [.int .i64 0, .slice none 0 0, .int .i64 0, .bool false] w (w2.setCell ⟨w1.heap.size, 1, none⟩ (.slice b1 a1.length c1)) := hX.set 1 (.slice b1 a1.length c1); have HM2 := Lib.hid hM; have HR1_2 := Lib.hid hR1; clear hR1; clear hM hX)
    | (go_at_call 27; (with_reducible refine (H2.out _ HM2.out.hs).mono ?_); rintro e w3 ⟨rfl, hs, hg⟩; have hX := HM2.out.call hs hg; have hR1 := Mk.row_set (HM2.out.row_call HR1_2.out hg) 2 (.int .i64 a2); clear hs hg; have d2 := BlkAt.cell hX.hk (i := 2) rfl; have f2 := BlkAt.frozen hX.hk 2; have hM : Mk v q w1.heap.size w.heap.size 99 r3 [.int .i64 a0, .slice b1 a1.length c1, .int .i64 a2, .bool false] [.int .i64 0, .slice none 0 0, .int .i64 0, .bool false] w (w3.setCell ⟨w1.heap.size, 2, none⟩ (.int .i64 a2)) := hX.set 2 (.int .i64 a2); have HM3 := Lib.hid hM; have HR1_3 := Lib.hid hR1; clear hR1; clear hM hX)
    | (go_at_call 28; (with_reducible refine (H3.out _ HM3.out.hs).mono ?_); rintro e w4 ⟨rfl, hs, hg⟩; have hX := HM3.out.call hs hg; have hR1 := Mk.row_set (HM3.out.row_call HR1_3.out hg) 3 (.bool a3); clear hs hg; have d3 := BlkAt.cell hX.hk (i := 3) rfl; have f3 := BlkAt.frozen hX.hk 3; have hM : Mk v q w1.heap.size w.heap.size 99 r4 [.int .i64 a0, .slice b1 a1.length c1, .int .i64 a2, .bool a3] [.int .i64 0, .slice none 0 0, .int .i64 0, .bool false] w (w4.setCell ⟨w1.heap.size, 3, none⟩ (.bool a3)) := hX.set 3 (.bool a3); have y0 := BlkAt.cell hM.hk (i := 0) rfl; have y1 := BlkAt.cell hM.hk (i := 1) rfl; have y2 := BlkAt.cell hM.hk (i := 2) rfl; have y3 := BlkAt.cell hM.hk (i := 3) rfl; have HM4 := Lib.hid hM; have HR1_4 := Lib.hid hR1; clear hR1; clear hM hX)
    | (refine wpList_store_blk (by rfl) 99 _ _ (by rfl) w.heap.size 99 [.int .i64 0, .slice none 0 0, .int .i64 0, .bool false] [.int .i64 a0, .slice b1 a1.length c1, .int .i64 a2, .bool a3] (by rfl) (by rfl) HM4.out.hj rfl (by kernel_rfl) (by intro u hu; simp only [List.mem_cons, List.not_mem_nil, or_false] at hu; rcases hu with rfl | rfl | rfl | rfl <;> rfl) ?_; intro wz hk hg; have hld := run_load_blk (P := Try.prog) hk _ Try.underlying99 rfl (by kernel_rfl)))
  exact bodyPost_ret (v := .agg #[.int .i64 a0, .slice b1 a1.length c1, .int .i64 a2, .bool a3]) (results_cell Try.results56 _ _ _ ⟨w.heap.size, 0, none⟩ _ (by rfl) hld) rfl ⟨_, rfl, HM4.out.row_end HR1_4.out hg, HM4.out.end_ hg⟩
theorem tanswer_at (v q : Nat) (hvq : v ≠ q) (r0 : Rd) (hl : Bd r0) {x : Ans} {rz : Rd} (hx : anC.rd r0 = (x, rz)) (w : World) (h : Tk v q r0 w) :
    Calls Try.prog 56 #[.pointer (some ⟨v, 0, none⟩)] w fun e w' => ∃ u1, e = .returned (.agg (anV (x, u1)).toArray) ∧ (Grow KvT 6 kvV w.heap.size u1 x.kvs w') ∧ Tk v q rz w' ∧ Gr2 q v w w' := by
  obtain ⟨a0, r1, e0⟩ : ∃ a s, numR r0 = (a, s) := ⟨_, _, rfl⟩
  obtain ⟨a1, r2, e1⟩ : ∃ a s, kvC.list.rd r1 = (a, s) := ⟨_, _, rfl⟩
  obtain ⟨a2, r3, e2⟩ : ∃ a s, numR r2 = (a, s) := ⟨_, _, rfl⟩
  obtain ⟨a3, r4, e3⟩ : ∃ a s, flagR r3 = (a, s) := ⟨_, _, rfl⟩
  have hh : anC.rd r0 = (⟨a0, a1, a2, a3⟩, r4) := iso_rd (pair_rd e0 (pair_rd e1 (pair_rd e2 e3))) _ _ _ _
  rw [hh] at hx
  injection hx with h1 h2
  subst h1 h2
  exact tanswer_cells v q hvq r0 r1 r2 r3 r4 a0 a1 a2 a3 hl e0 e1 e2 e3 w h
set_option maxRecDepth 100000 in
set_option maxHeartbeats 2000000 in
theorem trequest_cells (v q : Nat) (hvq : v ≠ q) (r0 r1 r2 r3 r4 r5 r6 r7 : Rd) (a0 : Int) (a1 : List Cp) (a2 : List Opr) (a3 : List Opr) (a4 : Int) (a5 : Int) (a6 : Int) (hl : Bd r0) (e0 : numR r0 = (a0, r1)) (e1 : cpC.list.rd r1 = (a1, r2)) (e2 : opC.list.rd r2 = (a2, r3)) (e3 : opC.list.rd r3 = (a3, r4)) (e4 : numR r4 = (a4, r5)) (e5 : numR r5 = (a5, r6)) (e6 : numR r6 = (a6, r7)) (w : World) (h : Tk v q r0 w) :
    Calls Try.prog 30 #[.pointer (some ⟨v, 0, none⟩)] w fun e w' => ∃ u1 u2 u3, e = .returned (.agg #[.int .i64 a0, u1, u2, u3, .int .i64 a4, .int .i64 a5, .int .i64 a6]) ∧ (Grow CpT 5 cpV w.heap.size u1 a1 w' ∧ Grow OpT 10 opV w.heap.size u2 a2 w' ∧ Grow OpT 10 opV w.heap.size u3 a3 w') ∧ Tk v q r7 w' ∧ Gr2 q v w w' := by
  have l1 := bd_num e0 hl
  have H0 := Lib.hid (fun X hX => tnum_at v q hvq r0 hl e0 X hX)
  have l2 := bd_cps e1 l1
  have H1 := Lib.hid (fun X hX => tcps_at v q hvq r1 l1 e1 X hX)
  have l3 := bd_ops e2 l2
  have H2 := Lib.hid (fun X hX => tops_at v q hvq r2 l2 e2 X hX)
  have l4 := bd_ops e3 l3
  have H3 := Lib.hid (fun X hX => tops_at v q hvq r3 l3 e3 X hX)
  have l5 := bd_num e4 l4
  have H4 := Lib.hid (fun X hX => tnum_at v q hvq r4 l4 e4 X hX)
  have l6 := bd_num e5 l5
  have H5 := Lib.hid (fun X hX => tnum_at v q hvq r5 l5 e5 X hX)
  have H6 := Lib.hid (fun X hX => tnum_at v q hvq r6 l6 e6 X hX)
  have HS := Lib.hid h
  have HA := Lib.hid (h.grew (alloc_below w (.cells #[.int .i64 0, .slice none 0 0, .slice none 0 0, .slice none 0 0, .int .i64 0, .int .i64 0, .int .i64 0] 26)))
  clear h hl l1 l2 l3 l4 l5 l6 e0 e1 e2 e3 e4 e5 e6
  go_enter Try.func30, Try.ntmps30
  go_wp2_with (first
    | (go_at_call 27; (with_reducible refine (H0.out _ HA.out).mono ?_); rintro e w1 ⟨rfl, hs, hg⟩; have HM1 : Hid (Mk v q w1.heap.size w.heap.size 26 r1 [.int .i64 a0, .slice none 0 0, .slice none 0 0, .slice none 0 0, .int .i64 0, .int .i64 0, .int .i64 0] [.int .i64 0, .slice none 0 0, .slice none 0 0, .slice none 0 0, .int .i64 0, .int .i64 0, .int .i64 0] w (w1.alloc (.cells #[.int .i64 a0, .slice none 0 0, .slice none 0 0, .slice none 0 0, .int .i64 0, .int .i64 0, .int .i64 0] 26))) := Lib.hid (mk_start HS.out hs hg [.int .i64 a0, .slice none 0 0, .slice none 0 0, .slice none 0 0, .int .i64 0, .int .i64 0, .int .i64 0]); clear hs hg)
    | (go_at_call 63; (with_reducible refine (H1.out _ HM1.out.hs).mono ?_); rintro e w2 ⟨u1, rfl, hG, hs, hg⟩; obtain ⟨b1, c1, rfl⟩ := hG.slice; have hX := HM1.out.call hs hg; have hR1 := Mk.row_set (HM1.out.row_start hG) 1 (.slice b1 a1.length c1); clear hG; clear hs hg; have d1 := BlkAt.cell hX.hk (i := 1) rfl; have f1 := BlkAt.frozen hX.hk 1; have hM : Mk v q w1.heap.size w.heap.size 26 r2 [.int .i64 a0, .slice b1 a1.length c1, .slice none 0 0, .slice none 0 0, .int .i64 0, .int .i64 0, .int .i64 0] [.int .i64 0, .slice none 0 0, .slice none 0 0, .slice none 0 0, .int .i64 0, .int .i64 0, .int .i64 0] w (w2.setCell ⟨w1.heap.size, 1, none⟩ (.slice b1 a1.length c1)) := hX.set 1 (.slice b1 a1.length c1); have HM2 := Lib.hid hM; have HR1_2 := Lib.hid hR1; clear hR1; clear hM hX)
    | (go_at_call 65; (with_reducible refine (H2.out _ HM2.out.hs).mono ?_); rintro e w3 ⟨u2, rfl, hG, hs, hg⟩; obtain ⟨b2, c2, rfl⟩ := hG.slice; have hX := HM2.out.call hs hg; have hR1 := Mk.row_set (HM2.out.row_call HR1_2.out hg) 2 (.slice b2 a2.length c2); have hR2 := Mk.row_set (HM2.out.row_start hG) 2 (.slice b2 a2.length c2); clear hG; clear hs hg; have d2 := BlkAt.cell hX.hk (i := 2) rfl; have f2 := BlkAt.frozen hX.hk 2; have hM : Mk v q w1.heap.size w.heap.size 26 r3 [.int .i64 a0, .slice b1 a1.length c1, .slice b2 a2.length c2, .slice none 0 0, .int .i64 0, .int .i64 0, .int .i64 0] [.int .i64 0, .slice none 0 0, .slice none 0 0, .slice none 0 0, .int .i64 0, .int .i64 0, .int .i64 0] w (w3.setCell ⟨w1.heap.size, 2, none⟩ (.slice b2 a2.length c2)) := hX.set 2 (.slice b2 a2.length c2); have HM3 := Lib.hid hM; have HR1_3 := Lib.hid hR1; clear hR1; have HR2_3 := Lib.hid hR2; clear hR2; clear hM hX)
    | (go_at_call 65; (with_reducible refine (H3.out _ HM3.out.hs).mono ?_); rintro e w4 ⟨u3, rfl, hG, hs, hg⟩; obtain ⟨b3, c3, rfl⟩ := hG.slice; have hX := HM3.out.call hs hg; have hR1 := Mk.row_set (HM3.out.row_call HR1_3.out hg) 3 (.slice b3 a3.length c3); have hR2 := Mk.row_set (HM3.out.row_call HR2_3.out hg) 3 (.slice b3 a3.length c3); have hR3 := Mk.row_set (HM3.out.row_start hG) 3 (.slice b3 a3.length c3); clear hG; clear hs hg; have d3 := BlkAt.cell hX.hk (i := 3) rfl; have f3 := BlkAt.frozen hX.hk 3; have hM : Mk v q w1.heap.size w.heap.size 26 r4 [.int .i64 a0, .slice b1 a1.length c1, .slice b2 a2.length c2, .slice b3 a3.length c3, .int .i64 0, .int .i64 0, .int .i64 0] [.int .i64 0, .slice none 0 0, .slice none 0 0, .slice none 0 0, .int .i64 0, .int .i64 0, .int .i64 0] w (w4.setCell ⟨w1.heap.size, 3, none⟩ (.slice b3 a3.length c3)) := hX.set 3 (.slice b3 a3.length c3); have HM4 := Lib.hid hM; have HR1_4 := Lib.hid hR1; clear hR1; have HR2_4 := Lib.hid hR2; clear hR2; have HR3_4 := Lib.hid hR3; clear hR3; clear hM hX)
    | (go_at_call 27; (with_reducible refine (H4.out _ HM4.out.hs).mono ?_); rintro e w5 ⟨rfl, hs, hg⟩; have hX := HM4.out.call hs hg; have hR1 := Mk.row_set (HM4.out.row_call HR1_4.out hg) 4 (.int .i64 a4); have hR2 := Mk.row_set (HM4.out.row_call HR2_4.out hg) 4 (.int .i64 a4); have hR3 := Mk.row_set (HM4.out.row_call HR3_4.out hg) 4 (.int .i64 a4); clear hs hg; have d4 := BlkAt.cell hX.hk (i := 4) rfl; have f4 := BlkAt.frozen hX.hk 4; have hM : Mk v q w1.heap.size w.heap.size 26 r5 [.int .i64 a0, .slice b1 a1.length c1, .slice b2 a2.length c2, .slice b3 a3.length c3, .int .i64 a4, .int .i64 0, .int .i64 0] [.int .i64 0, .slice none 0 0, .slice none 0 0, .slice none 0 0, .int .i64 0, .int .i64 0, .int .i64 0] w (w5.setCell ⟨w1.heap.size, 4, none⟩ (.int .i64 a4)) := hX.set 4 (.int .i64 a4); have HM5 := Lib.hid hM; have HR1_5 := Lib.hid hR1; clear hR1; have HR2_5 := Lib.hid hR2; clear hR2; have HR3_5 := Lib.hid hR3; clear hR3; clear hM hX)
    | (go_at_call 27; (with_reducible refine (H5.out _ HM5.out.hs).mono ?_); rintro e w6 ⟨rfl, hs, hg⟩; have hX := HM5.out.call hs hg; have hR1 := Mk.row_set (HM5.out.row_call HR1_5.out hg) 5 (.int .i64 a5); have hR2 := Mk.row_set (HM5.out.row_call HR2_5.out hg) 5 (.int .i64 a5); have hR3 := Mk.row_set (HM5.out.row_call HR3_5.out hg) 5 (.int .i64 a5); clear hs hg; have d5 := BlkAt.cell hX.hk (i := 5) rfl; have f5 := BlkAt.frozen hX.hk 5; have hM : Mk v q w1.heap.size w.heap.size 26 r6 [.int .i64 a0, .slice b1 a1.length c1, .slice b2 a2.length c2, .slice b3 a3.length c3, .int .i64 a4, .int .i64 a5, .int .i64 0] [.int .i64 0, .slice none 0 0, .slice none 0 0, .slice none 0 0, .int .i64 0, .int .i64 0, .int .i64 0] w (w6.setCell ⟨w1.heap.size, 5, none⟩ (.int .i64 a5)) := hX.set 5 (.int .i64 a5); have HM6 := Lib.hid hM; have HR1_6 := Lib.hid hR1; clear hR1; have HR2_6 := Lib.hid hR2; clear hR2; have HR3_6 := Lib.hid hR3; clear hR3; clear hM hX)
    | (go_at_call 27; (with_reducible refine (H6.out _ HM6.out.hs).mono ?_); rintro e w7 ⟨rfl, hs, hg⟩; have hX := HM6.out.call hs hg; have hR1 := Mk.row_set (HM6.out.row_call HR1_6.out hg) 6 (.int .i64 a6); have hR2 := Mk.row_set (HM6.out.row_call HR2_6.out hg) 6 (.int .i64 a6); have hR3 := Mk.row_set (HM6.out.row_call HR3_6.out hg) 6 (.int .i64 a6); clear hs hg; have d6 := BlkAt.cell hX.hk (i := 6) rfl; have f6 := BlkAt.frozen hX.hk 6; have hM : Mk v q w1.heap.size w.heap.size 26 r7 [.int .i64 a0, .slice b1 a1.length c1, .slice b2 a2.length c2, .slice b3 a3.length c3, .int .i64 a4, .int .i64 a5, .int .i64 a6] [.int .i64 0, .slice none 0 0, .slice none 0 0, .slice none 0 0, .int .i64 0, .int .i64 0, .int .i64 0] w (w7.setCell ⟨w1.heap.size, 6, none⟩ (.int .i64 a6)) := hX.set 6 (.int .i64 a6); have y0 := BlkAt.cell hM.hk (i := 0) rfl; have y1 := BlkAt.cell hM.hk (i := 1) rfl; have y2 := BlkAt.cell hM.hk (i := 2) rfl; have y3 := BlkAt.cell hM.hk (i := 3) rfl; have y4 := BlkAt.cell hM.hk (i := 4) rfl; have y5 := BlkAt.cell hM.hk (i := 5) rfl; have y6 := BlkAt.cell hM.hk (i := 6) rfl; have HM7 := Lib.hid hM; have HR1_7 := Lib.hid hR1; clear hR1; have HR2_7 := Lib.hid hR2; clear hR2; have HR3_7 := Lib.hid hR3; clear hR3; clear hM hX)
    | (refine wpList_store_blk (by rfl) 26 _ _ (by rfl) w.heap.size 26 [.int .i64 0, .slice none 0 0, .slice none 0 0, .slice none 0 0, .int .i64 0, .int .i64 0, .int .i64 0] [.int .i64 a0, .slice b1 a1.length c1, .slice b2 a2.length c2, .slice b3 a3.length c3, .int .i64 a4, .int .i64 a5, .int .i64 a6] (by rfl) (by rfl) HM7.out.hj rfl (by kernel_rfl) (by intro u hu; simp only [List.mem_cons, List.not_mem_nil, or_false] at hu; rcases hu with rfl | rfl | rfl | rfl | rfl | rfl | rfl <;> rfl) ?_; intro wz hk hg; have hld := run_load_blk (P := Try.prog) hk _ Try.underlying26 rfl (by kernel_rfl)))
  exact bodyPost_ret (v := .agg #[.int .i64 a0, .slice b1 a1.length c1, .slice b2 a2.length c2, .slice b3 a3.length c3, .int .i64 a4, .int .i64 a5, .int .i64 a6]) (results_cell Try.results30 _ _ _ ⟨w.heap.size, 0, none⟩ _ (by rfl) hld) rfl ⟨_, _, _, rfl, ⟨HM7.out.row_end HR1_7.out hg, HM7.out.row_end HR2_7.out hg, HM7.out.row_end HR3_7.out hg⟩, HM7.out.end_ hg⟩
theorem trequest_at (v q : Nat) (hvq : v ≠ q) (r0 : Rd) (hl : Bd r0) {x : Req} {rz : Rd} (hx : rqC.rd r0 = (x, rz)) (w : World) (h : Tk v q r0 w) :
    Calls Try.prog 30 #[.pointer (some ⟨v, 0, none⟩)] w fun e w' => ∃ u1 u2 u3, e = .returned (.agg (rqV x u1 u2 u3).toArray) ∧ (Grow CpT 5 cpV w.heap.size u1 x.cmp w' ∧ Grow OpT 10 opV w.heap.size u2 x.thn w' ∧ Grow OpT 10 opV w.heap.size u3 x.els w') ∧ Tk v q rz w' ∧ Gr2 q v w w' := by
  obtain ⟨a0, r1, e0⟩ : ∃ a s, numR r0 = (a, s) := ⟨_, _, rfl⟩
  obtain ⟨a1, r2, e1⟩ : ∃ a s, cpC.list.rd r1 = (a, s) := ⟨_, _, rfl⟩
  obtain ⟨a2, r3, e2⟩ : ∃ a s, opC.list.rd r2 = (a, s) := ⟨_, _, rfl⟩
  obtain ⟨a3, r4, e3⟩ : ∃ a s, opC.list.rd r3 = (a, s) := ⟨_, _, rfl⟩
  obtain ⟨a4, r5, e4⟩ : ∃ a s, numR r4 = (a, s) := ⟨_, _, rfl⟩
  obtain ⟨a5, r6, e5⟩ : ∃ a s, numR r5 = (a, s) := ⟨_, _, rfl⟩
  obtain ⟨a6, r7, e6⟩ : ∃ a s, numR r6 = (a, s) := ⟨_, _, rfl⟩
  have hh : rqC.rd r0 = (⟨a0, a1, a2, a3, a4, a5, a6⟩, r7) := iso_rd (pair_rd e0 (pair_rd e1 (pair_rd e2 (pair_rd e3 (pair_rd e4 (pair_rd e5 e6)))))) _ _ _ _
  rw [hh] at hx
  injection hx with h1 h2
  subst h1 h2
  exact trequest_cells v q hvq r0 r1 r2 r3 r4 r5 r6 r7 a0 a1 a2 a3 a4 a5 a6 hl e0 e1 e2 e3 e4 e5 e6 w h
theorem infoAn : (Try.prog.info? 99).map (fun i => (i.zero, i.size, i.bytes)) = some (some (.agg #[.int .i64 0, .slice none 0 0, .int .i64 0, .bool false]), 4, 48) := by kernel_rfl
theorem an_one (x : Ans) (a : Option Addr) (n c : Nat) : ∀ u ∈ anV (x, .slice a n c), u.oneCell' = true := by intro u hu; simp only [anV, List.mem_cons, List.not_mem_nil, or_false] at hu; rcases hu with rfl | rfl | rfl | rfl <;> rfl
/-- Each answer's own row of keys. -/
def KvAll (base : Nat) (D : List (Ans × Value)) (w : World) : Prop := ∀ p ∈ D, Grow KvT 6 kvV base p.2 p.1.kvs w
/-- Behind an append of one answer: the answers' own rows stand. -/
theorem rows_after {w0 wa wb : World} {u : Value} {L : List (Ans × Value)} {T : TypeId} {k : Nat} {enc : Ans × Value → List Value} (hG : Grow T k enc w0.heap.size u L wa) (o : Obj) (hT : KvT ≠ T) (h : (wa.alloc o).grownBy wb u.ownBlock) {x : Ans} {s : Value}
    (hkv : KvAll w0.heap.size L wa) (hk : Grow KvT 6 kvV w0.heap.size s x.kvs wa) : KvAll w0.heap.size (L ++ [(x, s)]) wb := by
  have hGa := hG.below (alloc_below wa o)
  intro p hp
  rcases List.mem_append.1 hp with hp | hp
  · exact hGa.apart h ((hkv p hp).below (alloc_below wa o)) hT
  · simp only [List.mem_cons, List.not_mem_nil, or_false] at hp
    subst hp
    exact hGa.apart h (hk.below (alloc_below wa o)) hT
set_option maxRecDepth 100000 in
set_option maxHeartbeats 2000000 in
theorem tthingsAnswer_any (v q : Nat) (hvq : v ≠ q) (r : Rd) (hl : Bd r) (w : World) (h : Tk v q r w) :
    Calls Try.prog 55 #[.pointer (some ⟨v, 0, none⟩), .func (.func 56) #[.pointer (some ⟨v, 0, none⟩)] #[]] w fun e w' => ∃ u, e = .returned u ∧ ∃ D, D.map (·.1) = (anC.list.rd r).1 ∧ Grow AnT 4 anV w.heap.size u D w' ∧ KvAll w.heap.size D w' ∧ Tk v q (anC.list.rd r).2 w' ∧ Gr2 q v w w' := by
  have hlv := h.lt
  have HN := Lib.hid (tnum_any v q hvq r hl w h)
  obtain ⟨hm1, hm2, hm3⟩ := many_is r
  have hl1 : Bd (numR r).2 := Nat.le_trans (numR_len r) hl
  have hL : anC.list.rd r = itemsR anC.rd (manyR r).1 (manyR r).2 := rfl
  rw [hL]
  have hl2 : Bd (manyR r).2 := by rw [hm1]; exact bd_check _ hl1
  rw [hm1] at hm2 hl2 ⊢
  have HC := Lib.hid (fun b W (hW : Tk v q (numR r).2 W) => tcheck_any v q hvq b (numR r).2 W hW)
  clear h hl hl1 hL hm1
  generalize numR r = nr at *
  obtain ⟨n, r1⟩ := nr
  generalize (manyR r).1 = N at *
  simp only at HN HC hm2 hl2 ⊢
  obtain ⟨r2, hr2⟩ : ∃ s, s = checkR (decide (0 ≤ n) && decide (n ≤ 10000)) r1 := ⟨_, rfl⟩
  rw [← hr2] at hm2 hl2 ⊢
  have HM2 := Lib.hid hm2
  have HR2 := Lib.hid hr2
  clear hm2 hr2
  go_enter Try.func55, Try.ntmps55
  go_upto_region 2 with (go_at_call 27; refine HN.out.mono ?_; rintro e w1 ⟨rfl, hR, hg⟩; have HT1 := Lib.hid hR; have HG1 := Lib.hid hg; clear hR hg)
  go_cut [] (fun wx => Tk v q r2 wx ∧ Gr2 q v w wx)
  case first =>
    by_cases h0 : 0 ≤ n
    · have d0 : decide (0 ≤ n) = true := decide_eq_true h0
      by_cases h1 : n ≤ 10000
      · have d1 : decide (n ≤ 10000) = true := decide_eq_true h1
        have HC1 := Lib.hid (HC.out true)
        clear HC
        go_wp2_with (go_at_call 61; (with_reducible refine (HC1.out _ HT1.out).mono ?_); rintro e w2 ⟨rfl, hR, hg⟩; have HT2 := Lib.hid hR; have HG2 := Lib.hid hg; clear hR hg)
        go_meet
        exact ⟨by rw [HR2.out, d0, d1]; exact HT2.out, HG1.out.trans HG2.out⟩
      · have d1 : decide (n ≤ 10000) = false := decide_eq_false h1
        have HC1 := Lib.hid (HC.out false)
        clear HC
        go_wp2_with (go_at_call 61; (with_reducible refine (HC1.out _ HT1.out).mono ?_); rintro e w2 ⟨rfl, hR, hg⟩; have HT2 := Lib.hid hR; have HG2 := Lib.hid hg; clear hR hg)
        go_meet
        exact ⟨by rw [HR2.out, d0, d1]; exact HT2.out, HG1.out.trans HG2.out⟩
    · have d0 : decide (0 ≤ n) = false := decide_eq_false h0
      have HC1 := Lib.hid (HC.out false)
      clear HC
      go_wp2_with (go_at_call 61; (with_reducible refine (HC1.out _ HT1.out).mono ?_); rintro e w2 ⟨rfl, hR, hg⟩; have HT2 := Lib.hid hR; have HG2 := Lib.hid hg; clear hR hg)
      go_meet
      exact ⟨by rw [HR2.out, d0]; exact HT2.out, HG1.out.trans HG2.out⟩
  case rest =>
    obtain ⟨hT2, hG2⟩ := hcut
    have HT2 := Lib.hid hT2
    have HG2 := Lib.hid hG2
    clear hT2 hG2 HN HC HT1 HG1 HR2
    go_wp2_with (fail)
    go_loopw [6, 7] (fun v6 v7 W => ∃ (i : Nat) (D : List (Ans × Value)) (ri : Rd), v7 = .int .i64 (i : Int) ∧ Grow AnT 4 anV w.heap.size v6 D W ∧ Tk v q ri W ∧ Gr2 q v w W ∧ Bd ri ∧ Way anC n N r2 i (D.map (fun p => p.1)) ri ∧ KvAll w.heap.size D W) (fun _ v7 _ => N - (intOf v7).toNat)
    case atStart => exact ⟨0, [], r2, rfl, Grow.nil _, HT2.out, HG2.out, hl2, way_start _ _ _ _ HM2.out, fun p hp => absurd hp (by simp)⟩
    case round =>
      obtain ⟨i, D, ri, rfl, hG, hT, hg2, hbd, hway, hkv⟩ := hrel
      have HKV := Lib.hid hkv
      clear hkv
      have hln : D.length = i := by have := hway.len; rwa [List.length_map] at this
      obtain ⟨a0, c0, hv6⟩ := hG.slice
      rw [hln] at hv6
      subst hv6
      have HG := Lib.hid hG
      have HT := Lib.hid hT
      have HGg := Lib.hid hg2
      have HWY := Lib.hid hway
      have HDl := Lib.hid hln
      clear hln
      have hle := hway.le
      clear hG hT hg2 hway HT2 HG2 HM2
      by_cases he : ri.e = 0
      · obtain ⟨hv, hq⟩ : BlkAt v TRd [.pointer (some ⟨q, 0, none⟩), .bool false] wr ∧ RdAt PackRd q ri wr := by
          rcases HT.out.s with hh | ⟨e, _⟩
          · exact hh
          · omega
        obtain rfl : n = (N : Int) := HWY.out.n he
        have c1 := BlkAt.cell hv (i := 1) rfl
        have HWr : Hid (Calls Try.prog 76 #[.pointer (some ⟨v, 0, none⟩)] wr fun e w' => e = .returned (.int .i64 0) ∧ w' = wr) := by
          have := twrong_any v q false ri HT.out.ok wr hv hq
          rw [he] at this
          exact Lib.hid this
        clear hv hq
        by_cases hlt : i < N
        · skip
          have q0 : decide (i < N) = true := decide_eq_true hlt
          obtain ⟨x, r3, hx⟩ : ∃ a s, anC.rd ri = (a, s) := ⟨_, _, rfl⟩
          have HX := Lib.hid (tanswer_at v q hvq ri hbd hx wr HT.out)
          have hWY := Lib.hid (HWY.out.next he hlt hx)
          have HBD := Lib.hid (bd_any anC_shr hx hbd)
          unfold anV at HX
          clear hx HWY
          go_wp2_with (first
            | (go_at_call 76; (with_reducible refine HWr.out.mono ?_); rintro e w2 ⟨rfl, rfl⟩)
            | (go_at_call 56; (with_reducible refine HX.out.mono ?_); rintro e w2 ⟨u1, rfl, hK, hR, hg⟩; obtain ⟨b1, c2, rfl⟩ := hK.slice; have HT3 := Lib.hid hR; have HK := Lib.hid (hK.mono HGg.out.size); have HG3 := Lib.hid (HGg.out.trans hg); have hGr := hg.grow HG.out hlv.2 hlv.1; have HKV2 : Hid (KvAll w.heap.size D w2) := Lib.hid (fun p hp => hg.grow (HKV.out p hp) hlv.2 hlv.1); clear hR hg hK)
            | (at_builtin; refine wpList_append_grow rfl _ _ _ rfl Try.underlying46 _ _ infoAn rfl (by decide) rfl hGr HG3.out.size (x, .slice b1 x.kvs.length c2) _ rfl rfl (an_one x b1 x.kvs.length c2) rfl (by rw [HDl.out]; unfold maxLen; omega) (by rw [HDl.out]; omega) ?_; intro v2 w6 hG6 hg6; obtain ⟨hT6, hg7⟩ := row_after hGr _ HT3.out HG3.out hlv hg6; have HT6 := Lib.hid hT6; have HG7 := Lib.hid hg7; have HG6 := Lib.hid hG6; have HK6 := Lib.hid (rows_after hGr _ (by decide) hg6 HKV2.out HK.out); clear hG6 hg6 hT6 hg7 hGr))
          go_roundw
          case rel => exact ⟨i + 1, _, r3, by go_num, HG6.out, HT6.out, HG7.out, HBD.out, by rw [List.map_append]; exact hWY.out, HK6.out⟩
          case measure => simp [intOf]; omega
        · as_aux_lemma =>
          have q0 : decide (i < N) = false := decide_eq_false hlt
          have HD := Lib.hid (HWY.out.done (.inr hlt))
          clear HWY HWr
          go_wp2_with (fail)
          go_ret
          exact ⟨_, rfl, D, by rw [HD.out], HG.out, HKV.out, by rw [HD.out]; exact HT.out, HGg.out⟩
      · have HD := Lib.hid (HWY.out.done (.inl he))
        clear HWY
        rcases HT.out.s with ⟨hv, hq⟩ | ⟨_, hv, _⟩
        · have c1 := BlkAt.cell hv (i := 1) rfl
          have hz := (e_cast HT.out.ok he).1
          have HWr := Lib.hid (twrong_any v q false ri HT.out.ok wr hv hq)
          clear hv hq
          by_cases hlt : (i : Int) < n
          · as_aux_lemma =>
            have q0 : decide ((i : Int) < n) = true := decide_eq_true hlt
            go_wp2_with (go_at_call 76; (with_reducible refine HWr.out.mono ?_); rintro e w2 ⟨rfl, rfl⟩)
            go_ret
            exact ⟨_, rfl, D, by rw [HD.out], HG.out, HKV.out, by rw [HD.out]; exact HT.out, HGg.out⟩
          · as_aux_lemma =>
            have q0 : decide ((i : Int) < n) = false := decide_eq_false hlt
            clear HWr
            go_wp2_with (fail)
            go_ret
            exact ⟨_, rfl, D, by rw [HD.out], HG.out, HKV.out, by rw [HD.out]; exact HT.out, HGg.out⟩
        · have c1 := BlkAt.cell hv (i := 1) rfl
          clear hv
          by_cases hlt : (i : Int) < n
          · as_aux_lemma =>
            have q0 : decide ((i : Int) < n) = true := decide_eq_true hlt
            go_wp2_with (fail)
            go_ret
            exact ⟨_, rfl, D, by rw [HD.out], HG.out, HKV.out, by rw [HD.out]; exact HT.out, HGg.out⟩
          · as_aux_lemma =>
            have q0 : decide ((i : Int) < n) = false := decide_eq_false hlt
            go_wp2_with (fail)
            go_ret
            exact ⟨_, rfl, D, by rw [HD.out], HG.out, HKV.out, by rw [HD.out]; exact HT.out, HGg.out⟩
theorem tans_at (v q : Nat) (hvq : v ≠ q) (r : Rd) (hl : Bd r) {L : List Ans} {r1 : Rd} (hn : anC.list.rd r = (L, r1)) (w : World) (h : Tk v q r w) :
    Calls Try.prog 55 #[.pointer (some ⟨v, 0, none⟩), .func (.func 56) #[.pointer (some ⟨v, 0, none⟩)] #[]] w fun e w' => ∃ u, e = .returned u ∧ ∃ D, D.map (·.1) = L ∧ Grow AnT 4 anV w.heap.size u D w' ∧ KvAll w.heap.size D w' ∧ Tk v q r1 w' ∧ Gr2 q v w w' := by
  have := tthingsAnswer_any v q hvq r hl w h
  rw [hn] at this
  exact this
end Go.Proofs.Ytlcblkmmkphpmaa
