/- The walks of talk's reader: rang, compare, op, kv. Printed by gen/genTalC.py. Conditions: as each theorem says. -/
import Derived.Test.YtlcblkmmkphpmaaTalA
import Derived.Test.YtlcblkmmkphpmaaTalX
namespace Go.Proofs.Ytlcblkmmkphpmaa
open Go.RowKit

theorem Grow.kept1 {α : Type} {T : TypeId} {k : Nat} {enc : α → List Value} {base : Nat} {v : Value} {L : List α} {w w' : World} {j : Nat} (h : Grow T k enc base v L w) (g : w.grownBy w' (some j)) (hj : j < base) : Grow T k enc base v L w' := World.ownsRow.kept h g (Or.inr (fun e => by have := own_base h j e; omega))
/-- Every code's reading leaves no more than there was. -/
def Cod.shr {α : Type} (c : Cod α) : Prop := ∀ r, (c.rd r).2.l.length ≤ r.l.length
theorem numC_shr : numC.shr := numR_len
theorem textC_shr : textC.shr := textR_len
theorem flagR_len (r : Rd) : (flagR r).2.l.length ≤ r.l.length := by
  have := numR_len r
  unfold flagR
  split
  · exact this
  · exact this
theorem flagC_shr : flagC.shr := flagR_len
theorem pair_shr {α β : Type} {a : Cod α} {b : Cod β} (ha : a.shr) (hb : b.shr) : (a.pair b).shr := fun r => Nat.le_trans (hb _) (ha r)
theorem iso_shr {α β : Type} {a : Cod α} (ha : a.shr) (f : α → β) (g : β → α) (h1 : ∀ x, f (g x) = x) (h2 : ∀ x, g (f x) = x) : (a.iso f g h1 h2).shr := ha
theorem items_shr {α : Type} {a : Cod α} (ha : a.shr) : ∀ (k : Nat) (r : Rd), (itemsR a.rd k r).2.l.length ≤ r.l.length := by
  intro k
  induction k with
  | zero => intro r; exact Nat.le_refl _
  | succ k ih =>
    intro r
    rw [itemsR]
    split
    · exact Nat.le_refl _
    · exact Nat.le_trans (ih _) (ha r)
theorem many_len (r : Rd) : (manyR r).2.l.length ≤ r.l.length := by
  have := numR_len r
  unfold manyR
  split
  · exact this
  · split
    · exact this
    · exact this
theorem list_shr {α : Type} {a : Cod α} (ha : a.shr) : a.list.shr := fun r => Nat.le_trans (items_shr ha _ _) (many_len r)
theorem rgC_shr : rgC.shr := iso_shr (pair_shr textC_shr (pair_shr textC_shr (pair_shr numC_shr (pair_shr numC_shr (pair_shr flagC_shr (pair_shr flagC_shr flagC_shr)))))) _ _ _ _
theorem cpC_shr : cpC.shr := iso_shr (pair_shr textC_shr (pair_shr numC_shr (pair_shr numC_shr (pair_shr numC_shr textC_shr)))) _ _ _ _
theorem opC_shr : opC.shr := iso_shr (pair_shr numC_shr (pair_shr rgC_shr (pair_shr textC_shr numC_shr))) _ _ _ _
theorem kvC_shr : kvC.shr := iso_shr (pair_shr textC_shr (pair_shr textC_shr (pair_shr numC_shr (pair_shr numC_shr (pair_shr numC_shr numC_shr))))) _ _ _ _
theorem anC_shr : anC.shr := iso_shr (pair_shr numC_shr (pair_shr (list_shr kvC_shr) (pair_shr numC_shr flagC_shr))) _ _ _ _
theorem rqC_shr : rqC.shr := iso_shr (pair_shr numC_shr (pair_shr (list_shr cpC_shr) (pair_shr (list_shr opC_shr) (pair_shr (list_shr opC_shr) (pair_shr numC_shr (pair_shr numC_shr numC_shr)))))) _ _ _ _
theorem rsC_shr : rsC.shr := iso_shr (pair_shr numC_shr (pair_shr numC_shr (pair_shr flagC_shr (pair_shr (list_shr anC_shr) numC_shr)))) _ _ _ _
theorem pair_rd {α β : Type} {a : Cod α} {b : Cod β} {r r1 r2 : Rd} {x : α} {y : β} (h1 : a.rd r = (x, r1)) (h2 : b.rd r1 = (y, r2)) : (a.pair b).rd r = ((x, y), r2) := by
  show (((a.rd r).1, (b.rd (a.rd r).2).1), (b.rd (a.rd r).2).2) = _
  rw [h1]
  simp only [h2]
theorem iso_rd {α β : Type} {a : Cod α} {r r1 : Rd} {x : α} (h : a.rd r = (x, r1)) (f : α → β) (g : β → α) (h1 : ∀ x, f (g x) = x) (h2 : ∀ x, g (f x) = x) : (a.iso f g h1 h2).rd r = (f x, r1) := by
  show (f (a.rd r).1, (a.rd r).2) = _
  rw [h]
/-- The bound that all remaining bytes keep. -/
abbrev Bd (r : Rd) : Prop := r.l.length ≤ 9223372036854775807
theorem bd_num {r r1 : Rd} {n : Int} (hn : numR r = (n, r1)) (hl : Bd r) : Bd r1 := by have := numR_len r; rw [hn] at this; exact Nat.le_trans this hl
theorem bd_text {r r1 : Rd} {n : Byt} (hn : textR r = (n, r1)) (hl : Bd r) : Bd r1 := by have := textR_len r; rw [hn] at this; exact Nat.le_trans this hl
theorem bd_flag {r r1 : Rd} {n : Bool} (hn : flagR r = (n, r1)) (hl : Bd r) : Bd r1 := by have := flagR_len r; rw [hn] at this; exact Nat.le_trans this hl
theorem bd_rang {r r1 : Rd} {n : Rg} (hn : rgC.rd r = (n, r1)) (hl : Bd r) : Bd r1 := by have := rgC_shr r; rw [hn] at this; exact Nat.le_trans this hl
theorem tnum_at (v q : Nat) (hvq : v ≠ q) (r : Rd) (hl : Bd r) {n : Int} {r1 : Rd} (hn : numR r = (n, r1)) (w : World) (h : Tk v q r w) :
    Calls Try.prog 27 #[.pointer (some ⟨v, 0, none⟩)] w fun e w' => e = .returned (.int .i64 n) ∧ Tk v q r1 w' ∧ Gr2 q v w w' := by
  have := tnum_any v q hvq r hl w h
  rw [hn] at this
  exact this
theorem ttext_at (v q : Nat) (hvq : v ≠ q) (r : Rd) (hl : Bd r) {n : Byt} {r1 : Rd} (hn : textR r = (n, r1)) (w : World) (h : Tk v q r w) :
    Calls Try.prog 62 #[.pointer (some ⟨v, 0, none⟩)] w fun e w' => e = .returned (.string (bs n)) ∧ Tk v q r1 w' ∧ Gr2 q v w w' := by
  have := ttext_any v q hvq r hl w h
  rw [hn] at this
  exact this
theorem tflag_at (v q : Nat) (hvq : v ≠ q) (r : Rd) (hl : Bd r) {n : Bool} {r1 : Rd} (hn : flagR r = (n, r1)) (w : World) (h : Tk v q r w) :
    Calls Try.prog 28 #[.pointer (some ⟨v, 0, none⟩)] w fun e w' => e = .returned (.bool n) ∧ Tk v q r1 w' ∧ Gr2 q v w w' := by
  have := tflag_any v q hvq r hl w h
  rw [hn] at this
  exact this
/-- A thing under way: the reader, the thing's block k, the result's block j. -/
structure Mk (v q k j : Nat) (T : TypeId) (r : Rd) (cs zs : List Value) (w0 w : World) : Prop where
  hs : Tk v q r w
  hk : BlkAt k T cs w
  hj : BlkAt j T zs w
  hg : Gr2 q v w0 w
  ho : w0.heap.size ≤ j ∧ j < k ∧ v < w0.heap.size ∧ q < w0.heap.size
section
variable {T : TypeId} {v q k j : Nat} {r r' : Rd} {cs zs : List Value} {w0 w w1 : World}
theorem Mk.call (h : Mk v q k j T r cs zs w0 w) (hs : Tk v q r' w1) (g : Gr2 q v w w1) : Mk v q k j T r' cs zs w0 w1 :=
  ⟨hs, g.blk h.hk (by have := h.ho; omega) (by have := h.ho; omega), g.blk h.hj (by have := h.ho; omega) (by have := h.ho; omega), h.hg.trans g, h.ho⟩
theorem Mk.set (h : Mk v q k j T r cs zs w0 w) (o : Nat) (x : Value) : Mk v q k j T r (cs.set o x) zs w0 (w.setCell ⟨k, o, none⟩ x) := by
  have g := grown_set w k o x
  have ho := h.ho
  exact ⟨h.hs.row g (fun e => by have := Option.some.inj e; omega) (fun e => by have := Option.some.inj e; omega), h.hk.set o x, h.hj.grown g (fun e => by have := Option.some.inj e; omega), h.hg.own g (by omega), ho⟩
theorem Mk.end_ (h : Mk v q k j T r cs zs w0 w) (g : w.grownBy w1 (some j)) : Tk v q r w1 ∧ Gr2 q v w0 w1 := by
  have ho := h.ho
  exact ⟨h.hs.row g (fun e => by have := Option.some.inj e; omega) (fun e => by have := Option.some.inj e; omega), h.hg.own g (by omega)⟩
/-- The first field is in the thing's new block. -/
theorem mk_start (h : Tk v q r w) (h1 : Tk v q r' w1) (g1 : Gr2 q v (w.alloc (.cells zs.toArray T)) w1) (cs : List Value) : Mk v q w1.heap.size w.heap.size T r' cs zs w (w1.alloc (.cells cs.toArray T)) := by
  have a0 := alloc_below w (.cells zs.toArray T)
  have a1 := alloc_below w1 (.cells cs.toArray T)
  have hl := h.lt
  have s0 : (w.alloc (.cells zs.toArray T)).heap.size = w.heap.size + 1 := by simp
  have s1 := g1.size
  exact ⟨h1.grew a1, BlkAt.alloc_new w1 cs T, (g1.blk (BlkAt.alloc_new w zs T) (by omega) (by omega)).grew a1, ((Gr2.of_below a0).trans g1).trans (Gr2.of_below a1), ⟨Nat.le_refl _, by omega, hl.1, hl.2⟩⟩
end
set_option maxRecDepth 100000 in
set_option maxHeartbeats 1000000 in
theorem trang_cells (v q : Nat) (hvq : v ≠ q) (r0 r1 r2 r3 r4 r5 r6 r7 : Rd) (a0 : Byt) (a1 : Byt) (a2 : Int) (a3 : Int) (a4 : Bool) (a5 : Bool) (a6 : Bool) (hl : Bd r0) (e0 : textR r0 = (a0, r1)) (e1 : textR r1 = (a1, r2)) (e2 : numR r2 = (a2, r3)) (e3 : numR r3 = (a3, r4)) (e4 : flagR r4 = (a4, r5)) (e5 : flagR r5 = (a5, r6)) (e6 : flagR r6 = (a6, r7)) (w : World) (h : Tk v q r0 w) :
    Calls Try.prog 29 #[.pointer (some ⟨v, 0, none⟩)] w fun e w' => e = .returned (.agg #[.string (bs a0), .string (bs a1), .int .i64 a2, .int .i64 a3, .bool a4, .bool a5, .bool a6]) ∧ Tk v q r7 w' ∧ Gr2 q v w w' := by
  have l1 := bd_text e0 hl
  have H0 := Lib.hid (fun X hX => ttext_at v q hvq r0 hl e0 X hX)
  have l2 := bd_text e1 l1
  have H1 := Lib.hid (fun X hX => ttext_at v q hvq r1 l1 e1 X hX)
  have l3 := bd_num e2 l2
  have H2 := Lib.hid (fun X hX => tnum_at v q hvq r2 l2 e2 X hX)
  have l4 := bd_num e3 l3
  have H3 := Lib.hid (fun X hX => tnum_at v q hvq r3 l3 e3 X hX)
  have l5 := bd_flag e4 l4
  have H4 := Lib.hid (fun X hX => tflag_at v q hvq r4 l4 e4 X hX)
  have l6 := bd_flag e5 l5
  have H5 := Lib.hid (fun X hX => tflag_at v q hvq r5 l5 e5 X hX)
  have H6 := Lib.hid (fun X hX => tflag_at v q hvq r6 l6 e6 X hX)
  have HS := Lib.hid h
  have HA := Lib.hid (h.grew (alloc_below w (.cells #[.string ⟨#[]⟩, .string ⟨#[]⟩, .int .i64 0, .int .i64 0, .bool false, .bool false, .bool false] 28)))
  clear h hl l1 l2 l3 l4 l5 l6 e0 e1 e2 e3 e4 e5 e6
  go_enter Try.func29, Try.ntmps29
  go_wp2_with (first
    | (go_at_call 62; (with_reducible refine (H0.out _ HA.out).mono ?_); rintro e w1 ⟨rfl, hs, hg⟩; have HM1 : Hid (Mk v q w1.heap.size w.heap.size 28 r1 [.string (bs a0), .string ⟨#[]⟩, .int .i64 0, .int .i64 0, .bool false, .bool false, .bool false] [.string ⟨#[]⟩, .string ⟨#[]⟩, .int .i64 0, .int .i64 0, .bool false, .bool false, .bool false] w (w1.alloc (.cells #[.string (bs a0), .string ⟨#[]⟩, .int .i64 0, .int .i64 0, .bool false, .bool false, .bool false] 28))) := Lib.hid (mk_start HS.out hs hg [.string (bs a0), .string ⟨#[]⟩, .int .i64 0, .int .i64 0, .bool false, .bool false, .bool false]); clear hs hg)
    | (go_at_call 62; (with_reducible refine (H1.out _ HM1.out.hs).mono ?_); rintro e w2 ⟨rfl, hs, hg⟩; have hX := HM1.out.call hs hg; clear hs hg; have c1 := BlkAt.cell hX.hk (i := 1) rfl; have f1 := BlkAt.frozen hX.hk 1; have hM : Mk v q w1.heap.size w.heap.size 28 r2 [.string (bs a0), .string (bs a1), .int .i64 0, .int .i64 0, .bool false, .bool false, .bool false] [.string ⟨#[]⟩, .string ⟨#[]⟩, .int .i64 0, .int .i64 0, .bool false, .bool false, .bool false] w (w2.setCell ⟨w1.heap.size, 1, none⟩ (.string (bs a1))) := (hX.set 1 (.string (bs a1))); have HM2 := Lib.hid hM; clear hM hX)
    | (go_at_call 27; (with_reducible refine (H2.out _ HM2.out.hs).mono ?_); rintro e w3 ⟨rfl, hs, hg⟩; have hX := HM2.out.call hs hg; clear hs hg; have c2 := BlkAt.cell hX.hk (i := 2) rfl; have f2 := BlkAt.frozen hX.hk 2; have hM : Mk v q w1.heap.size w.heap.size 28 r3 [.string (bs a0), .string (bs a1), .int .i64 a2, .int .i64 0, .bool false, .bool false, .bool false] [.string ⟨#[]⟩, .string ⟨#[]⟩, .int .i64 0, .int .i64 0, .bool false, .bool false, .bool false] w (w3.setCell ⟨w1.heap.size, 2, none⟩ (.int .i64 a2)) := (hX.set 2 (.int .i64 a2)); have HM3 := Lib.hid hM; clear hM hX)
    | (go_at_call 27; (with_reducible refine (H3.out _ HM3.out.hs).mono ?_); rintro e w4 ⟨rfl, hs, hg⟩; have hX := HM3.out.call hs hg; clear hs hg; have c3 := BlkAt.cell hX.hk (i := 3) rfl; have f3 := BlkAt.frozen hX.hk 3; have hM : Mk v q w1.heap.size w.heap.size 28 r4 [.string (bs a0), .string (bs a1), .int .i64 a2, .int .i64 a3, .bool false, .bool false, .bool false] [.string ⟨#[]⟩, .string ⟨#[]⟩, .int .i64 0, .int .i64 0, .bool false, .bool false, .bool false] w (w4.setCell ⟨w1.heap.size, 3, none⟩ (.int .i64 a3)) := (hX.set 3 (.int .i64 a3)); have HM4 := Lib.hid hM; clear hM hX)
    | (go_at_call 28; (with_reducible refine (H4.out _ HM4.out.hs).mono ?_); rintro e w5 ⟨rfl, hs, hg⟩; have hX := HM4.out.call hs hg; clear hs hg; have c4 := BlkAt.cell hX.hk (i := 4) rfl; have f4 := BlkAt.frozen hX.hk 4; have hM : Mk v q w1.heap.size w.heap.size 28 r5 [.string (bs a0), .string (bs a1), .int .i64 a2, .int .i64 a3, .bool a4, .bool false, .bool false] [.string ⟨#[]⟩, .string ⟨#[]⟩, .int .i64 0, .int .i64 0, .bool false, .bool false, .bool false] w (w5.setCell ⟨w1.heap.size, 4, none⟩ (.bool a4)) := (hX.set 4 (.bool a4)); have HM5 := Lib.hid hM; clear hM hX)
    | (go_at_call 28; (with_reducible refine (H5.out _ HM5.out.hs).mono ?_); rintro e w6 ⟨rfl, hs, hg⟩; have hX := HM5.out.call hs hg; clear hs hg; have c5 := BlkAt.cell hX.hk (i := 5) rfl; have f5 := BlkAt.frozen hX.hk 5; have hM : Mk v q w1.heap.size w.heap.size 28 r6 [.string (bs a0), .string (bs a1), .int .i64 a2, .int .i64 a3, .bool a4, .bool a5, .bool false] [.string ⟨#[]⟩, .string ⟨#[]⟩, .int .i64 0, .int .i64 0, .bool false, .bool false, .bool false] w (w6.setCell ⟨w1.heap.size, 5, none⟩ (.bool a5)) := (hX.set 5 (.bool a5)); have HM6 := Lib.hid hM; clear hM hX)
    | (go_at_call 28; (with_reducible refine (H6.out _ HM6.out.hs).mono ?_); rintro e w7 ⟨rfl, hs, hg⟩; have hX := HM6.out.call hs hg; clear hs hg; have c6 := BlkAt.cell hX.hk (i := 6) rfl; have f6 := BlkAt.frozen hX.hk 6; have hM : Mk v q w1.heap.size w.heap.size 28 r7 [.string (bs a0), .string (bs a1), .int .i64 a2, .int .i64 a3, .bool a4, .bool a5, .bool a6] [.string ⟨#[]⟩, .string ⟨#[]⟩, .int .i64 0, .int .i64 0, .bool false, .bool false, .bool false] w (w7.setCell ⟨w1.heap.size, 6, none⟩ (.bool a6)) := (hX.set 6 (.bool a6)); have y0 := BlkAt.cell hM.hk (i := 0) rfl; have y1 := BlkAt.cell hM.hk (i := 1) rfl; have y2 := BlkAt.cell hM.hk (i := 2) rfl; have y3 := BlkAt.cell hM.hk (i := 3) rfl; have y4 := BlkAt.cell hM.hk (i := 4) rfl; have y5 := BlkAt.cell hM.hk (i := 5) rfl; have y6 := BlkAt.cell hM.hk (i := 6) rfl; have HM7 := Lib.hid hM; clear hM hX)
    | (refine wpList_store_blk (by rfl) 28 _ _ (by rfl) w.heap.size 28 [.string ⟨#[]⟩, .string ⟨#[]⟩, .int .i64 0, .int .i64 0, .bool false, .bool false, .bool false] [.string (bs a0), .string (bs a1), .int .i64 a2, .int .i64 a3, .bool a4, .bool a5, .bool a6] (by rfl) (by rfl) HM7.out.hj rfl (by kernel_rfl) (by intro u hu; simp only [List.mem_cons, List.not_mem_nil, or_false] at hu; rcases hu with rfl | rfl | rfl | rfl | rfl | rfl | rfl <;> rfl) ?_; intro wz hk hg; have hld := run_load_blk (P := Try.prog) hk _ Try.underlying28 rfl (by kernel_rfl)))
  exact bodyPost_ret (v := .agg #[.string (bs a0), .string (bs a1), .int .i64 a2, .int .i64 a3, .bool a4, .bool a5, .bool a6]) (results_cell Try.results29 _ _ _ ⟨w.heap.size, 0, none⟩ _ (by rfl) hld) rfl ⟨rfl, HM7.out.end_ hg⟩
theorem trang_at (v q : Nat) (hvq : v ≠ q) (r0 : Rd) (hl : Bd r0) {x : Rg} {rz : Rd} (hx : rgC.rd r0 = (x, rz)) (w : World) (h : Tk v q r0 w) :
    Calls Try.prog 29 #[.pointer (some ⟨v, 0, none⟩)] w fun e w' => e = .returned (.agg (rgV x).toArray) ∧ Tk v q rz w' ∧ Gr2 q v w w' := by
  obtain ⟨a0, r1, e0⟩ : ∃ a s, textR r0 = (a, s) := ⟨_, _, rfl⟩
  obtain ⟨a1, r2, e1⟩ : ∃ a s, textR r1 = (a, s) := ⟨_, _, rfl⟩
  obtain ⟨a2, r3, e2⟩ : ∃ a s, numR r2 = (a, s) := ⟨_, _, rfl⟩
  obtain ⟨a3, r4, e3⟩ : ∃ a s, numR r3 = (a, s) := ⟨_, _, rfl⟩
  obtain ⟨a4, r5, e4⟩ : ∃ a s, flagR r4 = (a, s) := ⟨_, _, rfl⟩
  obtain ⟨a5, r6, e5⟩ : ∃ a s, flagR r5 = (a, s) := ⟨_, _, rfl⟩
  obtain ⟨a6, r7, e6⟩ : ∃ a s, flagR r6 = (a, s) := ⟨_, _, rfl⟩
  have hh : rgC.rd r0 = (⟨a0, a1, a2, a3, a4, a5, a6⟩, r7) := iso_rd (pair_rd e0 (pair_rd e1 (pair_rd e2 (pair_rd e3 (pair_rd e4 (pair_rd e5 e6)))))) _ _ _ _
  rw [hh] at hx
  injection hx with h1 h2
  subst h1 h2
  exact trang_cells v q hvq r0 r1 r2 r3 r4 r5 r6 r7 a0 a1 a2 a3 a4 a5 a6 hl e0 e1 e2 e3 e4 e5 e6 w h
set_option maxRecDepth 100000 in
set_option maxHeartbeats 1000000 in
theorem tcompare_cells (v q : Nat) (hvq : v ≠ q) (r0 r1 r2 r3 r4 r5 : Rd) (a0 : Byt) (a1 : Int) (a2 : Int) (a3 : Int) (a4 : Byt) (hl : Bd r0) (e0 : textR r0 = (a0, r1)) (e1 : numR r1 = (a1, r2)) (e2 : numR r2 = (a2, r3)) (e3 : numR r3 = (a3, r4)) (e4 : textR r4 = (a4, r5)) (w : World) (h : Tk v q r0 w) :
    Calls Try.prog 64 #[.pointer (some ⟨v, 0, none⟩)] w fun e w' => e = .returned (.agg #[.string (bs a0), .int .i64 a1, .int .i64 a2, .int .i64 a3, .string (bs a4)]) ∧ Tk v q r5 w' ∧ Gr2 q v w w' := by
  have l1 := bd_text e0 hl
  have H0 := Lib.hid (fun X hX => ttext_at v q hvq r0 hl e0 X hX)
  have l2 := bd_num e1 l1
  have H1 := Lib.hid (fun X hX => tnum_at v q hvq r1 l1 e1 X hX)
  have l3 := bd_num e2 l2
  have H2 := Lib.hid (fun X hX => tnum_at v q hvq r2 l2 e2 X hX)
  have l4 := bd_num e3 l3
  have H3 := Lib.hid (fun X hX => tnum_at v q hvq r3 l3 e3 X hX)
  have H4 := Lib.hid (fun X hX => ttext_at v q hvq r4 l4 e4 X hX)
  have HS := Lib.hid h
  have HA := Lib.hid (h.grew (alloc_below w (.cells #[.string ⟨#[]⟩, .int .i64 0, .int .i64 0, .int .i64 0, .string ⟨#[]⟩] 75)))
  clear h hl l1 l2 l3 l4 e0 e1 e2 e3 e4
  go_enter Try.func64, Try.ntmps64
  go_wp2_with (first
    | (go_at_call 62; (with_reducible refine (H0.out _ HA.out).mono ?_); rintro e w1 ⟨rfl, hs, hg⟩; have HM1 : Hid (Mk v q w1.heap.size w.heap.size 75 r1 [.string (bs a0), .int .i64 0, .int .i64 0, .int .i64 0, .string ⟨#[]⟩] [.string ⟨#[]⟩, .int .i64 0, .int .i64 0, .int .i64 0, .string ⟨#[]⟩] w (w1.alloc (.cells #[.string (bs a0), .int .i64 0, .int .i64 0, .int .i64 0, .string ⟨#[]⟩] 75))) := Lib.hid (mk_start HS.out hs hg [.string (bs a0), .int .i64 0, .int .i64 0, .int .i64 0, .string ⟨#[]⟩]); clear hs hg)
    | (go_at_call 27; (with_reducible refine (H1.out _ HM1.out.hs).mono ?_); rintro e w2 ⟨rfl, hs, hg⟩; have hX := HM1.out.call hs hg; clear hs hg; have c1 := BlkAt.cell hX.hk (i := 1) rfl; have f1 := BlkAt.frozen hX.hk 1; have hM : Mk v q w1.heap.size w.heap.size 75 r2 [.string (bs a0), .int .i64 a1, .int .i64 0, .int .i64 0, .string ⟨#[]⟩] [.string ⟨#[]⟩, .int .i64 0, .int .i64 0, .int .i64 0, .string ⟨#[]⟩] w (w2.setCell ⟨w1.heap.size, 1, none⟩ (.int .i64 a1)) := (hX.set 1 (.int .i64 a1)); have HM2 := Lib.hid hM; clear hM hX)
    | (go_at_call 27; (with_reducible refine (H2.out _ HM2.out.hs).mono ?_); rintro e w3 ⟨rfl, hs, hg⟩; have hX := HM2.out.call hs hg; clear hs hg; have c2 := BlkAt.cell hX.hk (i := 2) rfl; have f2 := BlkAt.frozen hX.hk 2; have hM : Mk v q w1.heap.size w.heap.size 75 r3 [.string (bs a0), .int .i64 a1, .int .i64 a2, .int .i64 0, .string ⟨#[]⟩] [.string ⟨#[]⟩, .int .i64 0, .int .i64 0, .int .i64 0, .string ⟨#[]⟩] w (w3.setCell ⟨w1.heap.size, 2, none⟩ (.int .i64 a2)) := (hX.set 2 (.int .i64 a2)); have HM3 := Lib.hid hM; clear hM hX)
    | (go_at_call 27; (with_reducible refine (H3.out _ HM3.out.hs).mono ?_); rintro e w4 ⟨rfl, hs, hg⟩; have hX := HM3.out.call hs hg; clear hs hg; have c3 := BlkAt.cell hX.hk (i := 3) rfl; have f3 := BlkAt.frozen hX.hk 3; have hM : Mk v q w1.heap.size w.heap.size 75 r4 [.string (bs a0), .int .i64 a1, .int .i64 a2, .int .i64 a3, .string ⟨#[]⟩] [.string ⟨#[]⟩, .int .i64 0, .int .i64 0, .int .i64 0, .string ⟨#[]⟩] w (w4.setCell ⟨w1.heap.size, 3, none⟩ (.int .i64 a3)) := (hX.set 3 (.int .i64 a3)); have HM4 := Lib.hid hM; clear hM hX)
    | (go_at_call 62; (with_reducible refine (H4.out _ HM4.out.hs).mono ?_); rintro e w5 ⟨rfl, hs, hg⟩; have hX := HM4.out.call hs hg; clear hs hg; have c4 := BlkAt.cell hX.hk (i := 4) rfl; have f4 := BlkAt.frozen hX.hk 4; have hM : Mk v q w1.heap.size w.heap.size 75 r5 [.string (bs a0), .int .i64 a1, .int .i64 a2, .int .i64 a3, .string (bs a4)] [.string ⟨#[]⟩, .int .i64 0, .int .i64 0, .int .i64 0, .string ⟨#[]⟩] w (w5.setCell ⟨w1.heap.size, 4, none⟩ (.string (bs a4))) := (hX.set 4 (.string (bs a4))); have y0 := BlkAt.cell hM.hk (i := 0) rfl; have y1 := BlkAt.cell hM.hk (i := 1) rfl; have y2 := BlkAt.cell hM.hk (i := 2) rfl; have y3 := BlkAt.cell hM.hk (i := 3) rfl; have y4 := BlkAt.cell hM.hk (i := 4) rfl; have HM5 := Lib.hid hM; clear hM hX)
    | (refine wpList_store_blk (by rfl) 75 _ _ (by rfl) w.heap.size 75 [.string ⟨#[]⟩, .int .i64 0, .int .i64 0, .int .i64 0, .string ⟨#[]⟩] [.string (bs a0), .int .i64 a1, .int .i64 a2, .int .i64 a3, .string (bs a4)] (by rfl) (by rfl) HM5.out.hj rfl (by kernel_rfl) (by intro u hu; simp only [List.mem_cons, List.not_mem_nil, or_false] at hu; rcases hu with rfl | rfl | rfl | rfl | rfl <;> rfl) ?_; intro wz hk hg; have hld := run_load_blk (P := Try.prog) hk _ Try.underlying75 rfl (by kernel_rfl)))
  exact bodyPost_ret (v := .agg #[.string (bs a0), .int .i64 a1, .int .i64 a2, .int .i64 a3, .string (bs a4)]) (results_cell Try.results64 _ _ _ ⟨w.heap.size, 0, none⟩ _ (by rfl) hld) rfl ⟨rfl, HM5.out.end_ hg⟩
theorem tcompare_at (v q : Nat) (hvq : v ≠ q) (r0 : Rd) (hl : Bd r0) {x : Cp} {rz : Rd} (hx : cpC.rd r0 = (x, rz)) (w : World) (h : Tk v q r0 w) :
    Calls Try.prog 64 #[.pointer (some ⟨v, 0, none⟩)] w fun e w' => e = .returned (.agg (cpV x).toArray) ∧ Tk v q rz w' ∧ Gr2 q v w w' := by
  obtain ⟨a0, r1, e0⟩ : ∃ a s, textR r0 = (a, s) := ⟨_, _, rfl⟩
  obtain ⟨a1, r2, e1⟩ : ∃ a s, numR r1 = (a, s) := ⟨_, _, rfl⟩
  obtain ⟨a2, r3, e2⟩ : ∃ a s, numR r2 = (a, s) := ⟨_, _, rfl⟩
  obtain ⟨a3, r4, e3⟩ : ∃ a s, numR r3 = (a, s) := ⟨_, _, rfl⟩
  obtain ⟨a4, r5, e4⟩ : ∃ a s, textR r4 = (a, s) := ⟨_, _, rfl⟩
  have hh : cpC.rd r0 = (⟨a0, a1, a2, a3, a4⟩, r5) := iso_rd (pair_rd e0 (pair_rd e1 (pair_rd e2 (pair_rd e3 e4)))) _ _ _ _
  rw [hh] at hx
  injection hx with h1 h2
  subst h1 h2
  exact tcompare_cells v q hvq r0 r1 r2 r3 r4 r5 a0 a1 a2 a3 a4 hl e0 e1 e2 e3 e4 w h
set_option maxRecDepth 100000 in
set_option maxHeartbeats 1000000 in
theorem top_cells (v q : Nat) (hvq : v ≠ q) (r0 r1 r2 r3 r4 : Rd) (a0 : Int) (a1 : Rg) (a2 : Byt) (a3 : Int) (hl : Bd r0) (e0 : numR r0 = (a0, r1)) (e1 : rgC.rd r1 = (a1, r2)) (e2 : textR r2 = (a2, r3)) (e3 : numR r3 = (a3, r4)) (w : World) (h : Tk v q r0 w) :
    Calls Try.prog 66 #[.pointer (some ⟨v, 0, none⟩)] w fun e w' => e = .returned (.agg #[.int .i64 a0, .string (bs a1.key), .string (bs a1.end_), .int .i64 a1.rev, .int .i64 a1.limit, .bool a1.keys, .bool a1.count, .bool a1.desc, .string (bs a2), .int .i64 a3]) ∧ Tk v q r4 w' ∧ Gr2 q v w w' := by
  have l1 := bd_num e0 hl
  have H0 := Lib.hid (fun X hX => tnum_at v q hvq r0 hl e0 X hX)
  have l2 := bd_rang e1 l1
  have H1 := Lib.hid (fun X hX => trang_at v q hvq r1 l1 e1 X hX)
  unfold rgV at H1
  have l3 := bd_text e2 l2
  have H2 := Lib.hid (fun X hX => ttext_at v q hvq r2 l2 e2 X hX)
  have H3 := Lib.hid (fun X hX => tnum_at v q hvq r3 l3 e3 X hX)
  have HS := Lib.hid h
  have HA := Lib.hid (h.grew (alloc_below w (.cells #[.int .i64 0, .string ⟨#[]⟩, .string ⟨#[]⟩, .int .i64 0, .int .i64 0, .bool false, .bool false, .bool false, .string ⟨#[]⟩, .int .i64 0] 89)))
  clear h hl l1 l2 l3 e0 e1 e2 e3
  go_enter Try.func66, Try.ntmps66
  go_wp2_with (first
    | (go_at_call 27; (with_reducible refine (H0.out _ HA.out).mono ?_); rintro e w1 ⟨rfl, hs, hg⟩; have HM1 : Hid (Mk v q w1.heap.size w.heap.size 89 r1 [.int .i64 a0, .string ⟨#[]⟩, .string ⟨#[]⟩, .int .i64 0, .int .i64 0, .bool false, .bool false, .bool false, .string ⟨#[]⟩, .int .i64 0] [.int .i64 0, .string ⟨#[]⟩, .string ⟨#[]⟩, .int .i64 0, .int .i64 0, .bool false, .bool false, .bool false, .string ⟨#[]⟩, .int .i64 0] w (w1.alloc (.cells #[.int .i64 a0, .string ⟨#[]⟩, .string ⟨#[]⟩, .int .i64 0, .int .i64 0, .bool false, .bool false, .bool false, .string ⟨#[]⟩, .int .i64 0] 89))) := Lib.hid (mk_start HS.out hs hg [.int .i64 a0, .string ⟨#[]⟩, .string ⟨#[]⟩, .int .i64 0, .int .i64 0, .bool false, .bool false, .bool false, .string ⟨#[]⟩, .int .i64 0]); clear hs hg)
    | (go_at_call 29; (with_reducible refine (H1.out _ HM1.out.hs).mono ?_); rintro e w2 ⟨rfl, hs, hg⟩; have hX := HM1.out.call hs hg; clear hs hg; have c1 := BlkAt.cell hX.hk (i := 1) rfl; have f1 := BlkAt.frozen hX.hk 1; have c2 := BlkAt.cell hX.hk (i := 2) rfl; have f2 := BlkAt.frozen hX.hk 2; have c3 := BlkAt.cell hX.hk (i := 3) rfl; have f3 := BlkAt.frozen hX.hk 3; have c4 := BlkAt.cell hX.hk (i := 4) rfl; have f4 := BlkAt.frozen hX.hk 4; have c5 := BlkAt.cell hX.hk (i := 5) rfl; have f5 := BlkAt.frozen hX.hk 5; have c6 := BlkAt.cell hX.hk (i := 6) rfl; have f6 := BlkAt.frozen hX.hk 6; have c7 := BlkAt.cell hX.hk (i := 7) rfl; have f7 := BlkAt.frozen hX.hk 7; have hM : Mk v q w1.heap.size w.heap.size 89 r2 [.int .i64 a0, .string (bs a1.key), .string (bs a1.end_), .int .i64 a1.rev, .int .i64 a1.limit, .bool a1.keys, .bool a1.count, .bool a1.desc, .string ⟨#[]⟩, .int .i64 0] [.int .i64 0, .string ⟨#[]⟩, .string ⟨#[]⟩, .int .i64 0, .int .i64 0, .bool false, .bool false, .bool false, .string ⟨#[]⟩, .int .i64 0] w (((((((w2.setCell ⟨w1.heap.size, 1, none⟩ (.string (bs a1.key))).setCell ⟨w1.heap.size, 2, none⟩ (.string (bs a1.end_))).setCell ⟨w1.heap.size, 3, none⟩ (.int .i64 a1.rev)).setCell ⟨w1.heap.size, 4, none⟩ (.int .i64 a1.limit)).setCell ⟨w1.heap.size, 5, none⟩ (.bool a1.keys)).setCell ⟨w1.heap.size, 6, none⟩ (.bool a1.count)).setCell ⟨w1.heap.size, 7, none⟩ (.bool a1.desc)) := (((((((hX.set 1 (.string (bs a1.key))).set 2 (.string (bs a1.end_))).set 3 (.int .i64 a1.rev)).set 4 (.int .i64 a1.limit)).set 5 (.bool a1.keys)).set 6 (.bool a1.count)).set 7 (.bool a1.desc)); have HM2 := Lib.hid hM; clear hM hX)
    | (go_at_call 62; (with_reducible refine (H2.out _ HM2.out.hs).mono ?_); rintro e w3 ⟨rfl, hs, hg⟩; have hX := HM2.out.call hs hg; clear hs hg; have c8 := BlkAt.cell hX.hk (i := 8) rfl; have f8 := BlkAt.frozen hX.hk 8; have hM : Mk v q w1.heap.size w.heap.size 89 r3 [.int .i64 a0, .string (bs a1.key), .string (bs a1.end_), .int .i64 a1.rev, .int .i64 a1.limit, .bool a1.keys, .bool a1.count, .bool a1.desc, .string (bs a2), .int .i64 0] [.int .i64 0, .string ⟨#[]⟩, .string ⟨#[]⟩, .int .i64 0, .int .i64 0, .bool false, .bool false, .bool false, .string ⟨#[]⟩, .int .i64 0] w (w3.setCell ⟨w1.heap.size, 8, none⟩ (.string (bs a2))) := (hX.set 8 (.string (bs a2))); have HM3 := Lib.hid hM; clear hM hX)
    | (go_at_call 27; (with_reducible refine (H3.out _ HM3.out.hs).mono ?_); rintro e w4 ⟨rfl, hs, hg⟩; have hX := HM3.out.call hs hg; clear hs hg; have c9 := BlkAt.cell hX.hk (i := 9) rfl; have f9 := BlkAt.frozen hX.hk 9; have hM : Mk v q w1.heap.size w.heap.size 89 r4 [.int .i64 a0, .string (bs a1.key), .string (bs a1.end_), .int .i64 a1.rev, .int .i64 a1.limit, .bool a1.keys, .bool a1.count, .bool a1.desc, .string (bs a2), .int .i64 a3] [.int .i64 0, .string ⟨#[]⟩, .string ⟨#[]⟩, .int .i64 0, .int .i64 0, .bool false, .bool false, .bool false, .string ⟨#[]⟩, .int .i64 0] w (w4.setCell ⟨w1.heap.size, 9, none⟩ (.int .i64 a3)) := (hX.set 9 (.int .i64 a3)); have y0 := BlkAt.cell hM.hk (i := 0) rfl; have y1 := BlkAt.cell hM.hk (i := 1) rfl; have y2 := BlkAt.cell hM.hk (i := 2) rfl; have y3 := BlkAt.cell hM.hk (i := 3) rfl; have y4 := BlkAt.cell hM.hk (i := 4) rfl; have y5 := BlkAt.cell hM.hk (i := 5) rfl; have y6 := BlkAt.cell hM.hk (i := 6) rfl; have y7 := BlkAt.cell hM.hk (i := 7) rfl; have y8 := BlkAt.cell hM.hk (i := 8) rfl; have y9 := BlkAt.cell hM.hk (i := 9) rfl; have HM4 := Lib.hid hM; clear hM hX)
    | (refine wpList_store_blk (by rfl) 89 _ _ (by rfl) w.heap.size 89 [.int .i64 0, .string ⟨#[]⟩, .string ⟨#[]⟩, .int .i64 0, .int .i64 0, .bool false, .bool false, .bool false, .string ⟨#[]⟩, .int .i64 0] [.int .i64 a0, .string (bs a1.key), .string (bs a1.end_), .int .i64 a1.rev, .int .i64 a1.limit, .bool a1.keys, .bool a1.count, .bool a1.desc, .string (bs a2), .int .i64 a3] (by rfl) (by rfl) HM4.out.hj rfl (by kernel_rfl) (by intro u hu; simp only [List.mem_cons, List.not_mem_nil, or_false] at hu; rcases hu with rfl | rfl | rfl | rfl | rfl | rfl | rfl | rfl | rfl | rfl <;> rfl) ?_; intro wz hk hg; have hld := run_load_blk (P := Try.prog) hk _ Try.underlying89 rfl (by kernel_rfl)))
  exact bodyPost_ret (v := .agg #[.int .i64 a0, .string (bs a1.key), .string (bs a1.end_), .int .i64 a1.rev, .int .i64 a1.limit, .bool a1.keys, .bool a1.count, .bool a1.desc, .string (bs a2), .int .i64 a3]) (results_cell Try.results66 _ _ _ ⟨w.heap.size, 0, none⟩ _ (by rfl) hld) rfl ⟨rfl, HM4.out.end_ hg⟩
theorem top_at (v q : Nat) (hvq : v ≠ q) (r0 : Rd) (hl : Bd r0) {x : Opr} {rz : Rd} (hx : opC.rd r0 = (x, rz)) (w : World) (h : Tk v q r0 w) :
    Calls Try.prog 66 #[.pointer (some ⟨v, 0, none⟩)] w fun e w' => e = .returned (.agg (opV x).toArray) ∧ Tk v q rz w' ∧ Gr2 q v w w' := by
  obtain ⟨a0, r1, e0⟩ : ∃ a s, numR r0 = (a, s) := ⟨_, _, rfl⟩
  obtain ⟨a1, r2, e1⟩ : ∃ a s, rgC.rd r1 = (a, s) := ⟨_, _, rfl⟩
  obtain ⟨a2, r3, e2⟩ : ∃ a s, textR r2 = (a, s) := ⟨_, _, rfl⟩
  obtain ⟨a3, r4, e3⟩ : ∃ a s, numR r3 = (a, s) := ⟨_, _, rfl⟩
  have hh : opC.rd r0 = (⟨a0, a1, a2, a3⟩, r4) := iso_rd (pair_rd e0 (pair_rd e1 (pair_rd e2 e3))) _ _ _ _
  rw [hh] at hx
  injection hx with h1 h2
  subst h1 h2
  exact top_cells v q hvq r0 r1 r2 r3 r4 a0 a1 a2 a3 hl e0 e1 e2 e3 w h
set_option maxRecDepth 100000 in
set_option maxHeartbeats 1000000 in
theorem tkv_cells (v q : Nat) (hvq : v ≠ q) (r0 r1 r2 r3 r4 r5 r6 : Rd) (a0 : Byt) (a1 : Byt) (a2 : Int) (a3 : Int) (a4 : Int) (a5 : Int) (hl : Bd r0) (e0 : textR r0 = (a0, r1)) (e1 : textR r1 = (a1, r2)) (e2 : numR r2 = (a2, r3)) (e3 : numR r3 = (a3, r4)) (e4 : numR r4 = (a4, r5)) (e5 : numR r5 = (a5, r6)) (w : World) (h : Tk v q r0 w) :
    Calls Try.prog 78 #[.pointer (some ⟨v, 0, none⟩)] w fun e w' => e = .returned (.agg #[.string (bs a0), .string (bs a1), .int .i64 a2, .int .i64 a3, .int .i64 a4, .int .i64 a5]) ∧ Tk v q r6 w' ∧ Gr2 q v w w' := by
  have l1 := bd_text e0 hl
  have H0 := Lib.hid (fun X hX => ttext_at v q hvq r0 hl e0 X hX)
  have l2 := bd_text e1 l1
  have H1 := Lib.hid (fun X hX => ttext_at v q hvq r1 l1 e1 X hX)
  have l3 := bd_num e2 l2
  have H2 := Lib.hid (fun X hX => tnum_at v q hvq r2 l2 e2 X hX)
  have l4 := bd_num e3 l3
  have H3 := Lib.hid (fun X hX => tnum_at v q hvq r3 l3 e3 X hX)
  have l5 := bd_num e4 l4
  have H4 := Lib.hid (fun X hX => tnum_at v q hvq r4 l4 e4 X hX)
  have H5 := Lib.hid (fun X hX => tnum_at v q hvq r5 l5 e5 X hX)
  have HS := Lib.hid h
  have HA := Lib.hid (h.grew (alloc_below w (.cells #[.string ⟨#[]⟩, .string ⟨#[]⟩, .int .i64 0, .int .i64 0, .int .i64 0, .int .i64 0] 101)))
  clear h hl l1 l2 l3 l4 l5 e0 e1 e2 e3 e4 e5
  go_enter Try.func78, Try.ntmps78
  go_wp2_with (first
    | (go_at_call 62; (with_reducible refine (H0.out _ HA.out).mono ?_); rintro e w1 ⟨rfl, hs, hg⟩; have HM1 : Hid (Mk v q w1.heap.size w.heap.size 101 r1 [.string (bs a0), .string ⟨#[]⟩, .int .i64 0, .int .i64 0, .int .i64 0, .int .i64 0] [.string ⟨#[]⟩, .string ⟨#[]⟩, .int .i64 0, .int .i64 0, .int .i64 0, .int .i64 0] w (w1.alloc (.cells #[.string (bs a0), .string ⟨#[]⟩, .int .i64 0, .int .i64 0, .int .i64 0, .int .i64 0] 101))) := Lib.hid (mk_start HS.out hs hg [.string (bs a0), .string ⟨#[]⟩, .int .i64 0, .int .i64 0, .int .i64 0, .int .i64 0]); clear hs hg)
    | (go_at_call 62; (with_reducible refine (H1.out _ HM1.out.hs).mono ?_); rintro e w2 ⟨rfl, hs, hg⟩; have hX := HM1.out.call hs hg; clear hs hg; have c1 := BlkAt.cell hX.hk (i := 1) rfl; have f1 := BlkAt.frozen hX.hk 1; have hM : Mk v q w1.heap.size w.heap.size 101 r2 [.string (bs a0), .string (bs a1), .int .i64 0, .int .i64 0, .int .i64 0, .int .i64 0] [.string ⟨#[]⟩, .string ⟨#[]⟩, .int .i64 0, .int .i64 0, .int .i64 0, .int .i64 0] w (w2.setCell ⟨w1.heap.size, 1, none⟩ (.string (bs a1))) := (hX.set 1 (.string (bs a1))); have HM2 := Lib.hid hM; clear hM hX)
    | (go_at_call 27; (with_reducible refine (H2.out _ HM2.out.hs).mono ?_); rintro e w3 ⟨rfl, hs, hg⟩; have hX := HM2.out.call hs hg; clear hs hg; have c2 := BlkAt.cell hX.hk (i := 2) rfl; have f2 := BlkAt.frozen hX.hk 2; have hM : Mk v q w1.heap.size w.heap.size 101 r3 [.string (bs a0), .string (bs a1), .int .i64 a2, .int .i64 0, .int .i64 0, .int .i64 0] [.string ⟨#[]⟩, .string ⟨#[]⟩, .int .i64 0, .int .i64 0, .int .i64 0, .int .i64 0] w (w3.setCell ⟨w1.heap.size, 2, none⟩ (.int .i64 a2)) := (hX.set 2 (.int .i64 a2)); have HM3 := Lib.hid hM; clear hM hX)
    | (go_at_call 27; (with_reducible refine (H3.out _ HM3.out.hs).mono ?_); rintro e w4 ⟨rfl, hs, hg⟩; have hX := HM3.out.call hs hg; clear hs hg; have c3 := BlkAt.cell hX.hk (i := 3) rfl; have f3 := BlkAt.frozen hX.hk 3; have hM : Mk v q w1.heap.size w.heap.size 101 r4 [.string (bs a0), .string (bs a1), .int .i64 a2, .int .i64 a3, .int .i64 0, .int .i64 0] [.string ⟨#[]⟩, .string ⟨#[]⟩, .int .i64 0, .int .i64 0, .int .i64 0, .int .i64 0] w (w4.setCell ⟨w1.heap.size, 3, none⟩ (.int .i64 a3)) := (hX.set 3 (.int .i64 a3)); have HM4 := Lib.hid hM; clear hM hX)
    | (go_at_call 27; (with_reducible refine (H4.out _ HM4.out.hs).mono ?_); rintro e w5 ⟨rfl, hs, hg⟩; have hX := HM4.out.call hs hg; clear hs hg; have c4 := BlkAt.cell hX.hk (i := 4) rfl; have f4 := BlkAt.frozen hX.hk 4; have hM : Mk v q w1.heap.size w.heap.size 101 r5 [.string (bs a0), .string (bs a1), .int .i64 a2, .int .i64 a3, .int .i64 a4, .int .i64 0] [.string ⟨#[]⟩, .string ⟨#[]⟩, .int .i64 0, .int .i64 0, .int .i64 0, .int .i64 0] w (w5.setCell ⟨w1.heap.size, 4, none⟩ (.int .i64 a4)) := (hX.set 4 (.int .i64 a4)); have HM5 := Lib.hid hM; clear hM hX)
    | (go_at_call 27; (with_reducible refine (H5.out _ HM5.out.hs).mono ?_); rintro e w6 ⟨rfl, hs, hg⟩; have hX := HM5.out.call hs hg; clear hs hg; have c5 := BlkAt.cell hX.hk (i := 5) rfl; have f5 := BlkAt.frozen hX.hk 5; have hM : Mk v q w1.heap.size w.heap.size 101 r6 [.string (bs a0), .string (bs a1), .int .i64 a2, .int .i64 a3, .int .i64 a4, .int .i64 a5] [.string ⟨#[]⟩, .string ⟨#[]⟩, .int .i64 0, .int .i64 0, .int .i64 0, .int .i64 0] w (w6.setCell ⟨w1.heap.size, 5, none⟩ (.int .i64 a5)) := (hX.set 5 (.int .i64 a5)); have y0 := BlkAt.cell hM.hk (i := 0) rfl; have y1 := BlkAt.cell hM.hk (i := 1) rfl; have y2 := BlkAt.cell hM.hk (i := 2) rfl; have y3 := BlkAt.cell hM.hk (i := 3) rfl; have y4 := BlkAt.cell hM.hk (i := 4) rfl; have y5 := BlkAt.cell hM.hk (i := 5) rfl; have HM6 := Lib.hid hM; clear hM hX)
    | (refine wpList_store_blk (by rfl) 101 _ _ (by rfl) w.heap.size 101 [.string ⟨#[]⟩, .string ⟨#[]⟩, .int .i64 0, .int .i64 0, .int .i64 0, .int .i64 0] [.string (bs a0), .string (bs a1), .int .i64 a2, .int .i64 a3, .int .i64 a4, .int .i64 a5] (by rfl) (by rfl) HM6.out.hj rfl (by kernel_rfl) (by intro u hu; simp only [List.mem_cons, List.not_mem_nil, or_false] at hu; rcases hu with rfl | rfl | rfl | rfl | rfl | rfl <;> rfl) ?_; intro wz hk hg; have hld := run_load_blk (P := Try.prog) hk _ Try.underlying101 rfl (by kernel_rfl)))
  exact bodyPost_ret (v := .agg #[.string (bs a0), .string (bs a1), .int .i64 a2, .int .i64 a3, .int .i64 a4, .int .i64 a5]) (results_cell Try.results78 _ _ _ ⟨w.heap.size, 0, none⟩ _ (by rfl) hld) rfl ⟨rfl, HM6.out.end_ hg⟩
theorem tkv_at (v q : Nat) (hvq : v ≠ q) (r0 : Rd) (hl : Bd r0) {x : Kvr} {rz : Rd} (hx : kvC.rd r0 = (x, rz)) (w : World) (h : Tk v q r0 w) :
    Calls Try.prog 78 #[.pointer (some ⟨v, 0, none⟩)] w fun e w' => e = .returned (.agg (kvV x).toArray) ∧ Tk v q rz w' ∧ Gr2 q v w w' := by
  obtain ⟨a0, r1, e0⟩ : ∃ a s, textR r0 = (a, s) := ⟨_, _, rfl⟩
  obtain ⟨a1, r2, e1⟩ : ∃ a s, textR r1 = (a, s) := ⟨_, _, rfl⟩
  obtain ⟨a2, r3, e2⟩ : ∃ a s, numR r2 = (a, s) := ⟨_, _, rfl⟩
  obtain ⟨a3, r4, e3⟩ : ∃ a s, numR r3 = (a, s) := ⟨_, _, rfl⟩
  obtain ⟨a4, r5, e4⟩ : ∃ a s, numR r4 = (a, s) := ⟨_, _, rfl⟩
  obtain ⟨a5, r6, e5⟩ : ∃ a s, numR r5 = (a, s) := ⟨_, _, rfl⟩
  have hh : kvC.rd r0 = (⟨a0, a1, a2, a3, a4, a5⟩, r6) := iso_rd (pair_rd e0 (pair_rd e1 (pair_rd e2 (pair_rd e3 (pair_rd e4 e5))))) _ _ _ _
  rw [hh] at hx
  injection hx with h1 h2
  subst h1 h2
  exact tkv_cells v q hvq r0 r1 r2 r3 r4 r5 r6 a0 a1 a2 a3 a4 a5 hl e0 e1 e2 e3 e4 e5 w h
end Go.Proofs.Ytlcblkmmkphpmaa
