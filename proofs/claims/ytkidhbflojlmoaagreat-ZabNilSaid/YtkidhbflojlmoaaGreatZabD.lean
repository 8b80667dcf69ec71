/- The walks of State and Phase. Conditions: as each theorem says. -/
import Derived.Test.YtkidhbflojlmoaaGreatZabC
namespace Go.Proofs.YtkidhbflojlmoaaGreat
open Go.RowKit

theorem LogOf.grew {v : Value} {L : List Ent} {w w' : World} (h : LogOf v L w) (hb : Below w.heap.size w w') : LogOf v L w' := by
  obtain ⟨a, c, e, hE, h1, h2⟩ := h
  exact ⟨a, c, e, EntsAt.grew hE hb, h1, h2⟩
theorem cell_of_heap {w w' : World} {b i : Nat} (h : w'.heap[b]? = w.heap[b]?) : w'.cell? ⟨b, i, none⟩ = w.cell? ⟨b, i, none⟩ := by
  unfold World.cell?
  simp only [h]
theorem EntsAt.kept {v : Value} {L : List Ent} {w w' : World} {row : Option Nat} (h : EntsAt w v L) (hg : w.grownBy w' row) (hb : ∀ b, v.ownBlock = some b → some b ≠ row) : EntsAt w' v L := by
  obtain ⟨a, c, rfl, hc⟩ := h
  refine ⟨a, c, rfl, fun i hi => ?_⟩
  obtain ⟨b, off, rfl, e0, e1, e2⟩ := hc i hi
  have hlt := block_lt_of_cell e0
  have he := hg.block b hlt (hb b rfl)
  exact ⟨b, off, rfl, by rw [cell_of_heap he]; exact e0, by rw [cell_of_heap he]; exact e1, by rw [cell_of_heap he]; exact e2⟩
theorem LogOf.kept {v : Value} {L : List Ent} {w w' : World} {row : Option Nat} (h : LogOf v L w) (hg : w.grownBy w' row) (hb : ∀ b, v.ownBlock = some b → some b ≠ row) : LogOf v L w' := by
  obtain ⟨a, c, e, hE, h1, h2⟩ := h
  exact ⟨a, c, e, EntsAt.kept hE hg hb, h1, h2⟩
theorem clone_log (v : Value) (L : List Ent) (w : World) (h : LogOf v L w) :
    Calls Tryz.prog 27 #[v] w fun e w' => ∃ v', e = .returned v' ∧ LogOf v' L w' ∧ (∀ b, v'.ownBlock = some b → w.heap.size ≤ b) ∧ Below w.heap.size w w' := by
  obtain ⟨a, c, rfl, hE, h1, h2⟩ := h
  refine (clone_full L a c w hE h1).mono ?_
  rintro e w' ⟨v, rfl, ho, hb⟩
  obtain ⟨_, a', c', hv, hc, _, hE'⟩ := own_form ho
  exact ⟨v, rfl, ⟨a', c', hv, hE', h1, hc⟩, own_base ho, hb⟩
theorem two_allocs (w : World) (o1 o2 : Obj) : Below w.heap.size w ((w.alloc o1).alloc o2) := (alloc_below w o1).trans ((alloc_below _ o2).mono (alloc_below w o1).size)
abbrev StaT : TypeId := 46
/-- What State says. -/
def stateV (n : Nd) (v : Value) : Value := .agg #[.int .i64 n.acc, .int .i64 n.cur, .int .i64 n.beg.1, .int .i64 n.beg.2, .string (bs n.img), v]
set_option maxRecDepth 100000 in
set_option maxHeartbeats 2000000 in
theorem state_own (g : Nat) (n : Nd) (hf : n.fit) (L : List Ent) (w : World) (h : NodeAt g n w) (hL : LogAt n L w) :
    Calls Tryz.prog 11 #[ptrV g] w fun e w' => ∃ v, e = .returned (stateV n v) ∧ LogOf v L w' ∧ (∀ b, v.ownBlock = some b → w.heap.size ≤ b) ∧ Below w.heap.size w w' := by
  obtain ⟨a, c, hv, hE, h1, h2⟩ := hL
  have c0 : w.cell? ⟨g, 0, none⟩ = some (.int .i64 n.acc) := h.cell (by rfl)
  have c1 : w.cell? ⟨g, 1, none⟩ = some (.int .i64 n.cur) := h.cell (by rfl)
  have c2 : w.cell? ⟨g, 2, none⟩ = some (.int .i64 n.beg.1) := h.cell (by rfl)
  have c3 : w.cell? ⟨g, 3, none⟩ = some (.int .i64 n.beg.2) := h.cell (by rfl)
  have c4 : w.cell? ⟨g, 4, none⟩ = some (.string (bs n.img)) := h.cell (by rfl)
  have c5 : w.cell? ⟨g, 5, none⟩ = some (.slice a L.length c) := by rw [← hv]; exact h.cell (by rfl)
  have hlt : g < w.heap.size := BlkAt.lt h
  rw [hv] at hE
  have HC := Lib.hid (fun W (hB : Below w.heap.size w W) => clone_log (.slice a L.length c) L W ⟨a, c, rfl, EntsAt.grew hE hB, h1, h2⟩)
  have HB := Lib.hid (fun o => alloc_below w o)
  unfold ptrV stateV
  clear h hf hE hv
  go_enter Tryz.func11, Tryz.ntmps11
  have HX := Lib.hid (BlkAt.alloc_new (w.alloc (.cells #[.int .i64 0, .int .i64 0, .int .i64 0, .int .i64 0, .string ⟨#[]⟩, .slice none 0 0] StaT)) [.int .i64 n.acc, .int .i64 n.cur, .int .i64 n.beg.1, .int .i64 n.beg.2, .string (bs n.img), .slice a L.length c] StaT)
  have HZ := Lib.hid (BlkAt.alloc_new w [.int .i64 0, .int .i64 0, .int .i64 0, .int .i64 0, .string ⟨#[]⟩, .slice none 0 0] StaT)
  have HB2 := Lib.hid (two_allocs w (.cells #[.int .i64 0, .int .i64 0, .int .i64 0, .int .i64 0, .string ⟨#[]⟩, .slice none 0 0] StaT) (.cells #[.int .i64 n.acc, .int .i64 n.cur, .int .i64 n.beg.1, .int .i64 n.beg.2, .string (bs n.img), .slice a L.length c] StaT))
  go_upto_region 5 with (go_at_call 27; (with_reducible refine (HC.out _ HB2.out).mono ?_); go_loud (rintro e w1 ⟨v', rfl, hL1, hF1, hb1⟩; have hx := BlkAt.grew HX.out hb1; have hz := BlkAt.grew (BlkAt.grew HZ.out (alloc_below _ _)) hb1; have x0 := hx.cell (i := 0) rfl; have x1 := hx.cell (i := 1) rfl; have x2 := hx.cell (i := 2) rfl; have x3 := hx.cell (i := 3) rfl; have x4 := hx.cell (i := 4) rfl; have x5 := hx.cell (i := 5) rfl; have xf := hx.frozen 5; rw [World.size_alloc] at x0 x1 x2 x3 x4 x5 xf; have HXX := Lib.hid hx; have HZZ := Lib.hid hz; have HB1 := Lib.hid (HB2.out.trans (hb1.mono HB2.out.size)); obtain ⟨a1, k1, hv1, hE1, -, hc1⟩ := hL1; subst hv1; have HL1 := Lib.hid (And.intro hE1 (And.intro hc1 hF1)); clear hx hz hb1 hE1 hF1))
  have hx2 := BlkAt.set HXX.out 5 (.slice a1 L.length k1)
  rw [World.size_alloc] at hx2
  have hz2 := BlkAt.grown HZZ.out (grown_set w1 (w.heap.size + 1) 5 (.slice a1 L.length k1)) (by simp)
  have HB5 := Lib.hid (bel_set HB1.out (show w.heap.size ≤ w.heap.size + 1 by omega) 5 (.slice a1 L.length k1))
  obtain ⟨w2, hw2⟩ : ∃ w2, w2 = w1.setCell ⟨w.heap.size + 1, 5, none⟩ (.slice a1 L.length k1) := ⟨_, rfl⟩
  rw [← hw2] at hx2 hz2 HB5 ⊢
  have HE2 := Lib.hid (show EntsAt w2 (.slice a1 L.length k1) L from hw2 ▸ EntsAt.kept HL1.out.1 (grown_set w1 (w.heap.size + 1) 5 (.slice a1 L.length k1)) (fun b hb => by have := HL1.out.2.2 b hb; simp at this; simp; omega))
  have x0 := hx2.cell (i := 0) rfl
  have x1 := hx2.cell (i := 1) rfl
  have x2 := hx2.cell (i := 2) rfl
  have x3 := hx2.cell (i := 3) rfl
  have x4 := hx2.cell (i := 4) rfl
  have x5 := hx2.cell (i := 5) rfl
  have z0 := hz2.cell (i := 0) rfl
  have z1 := hz2.cell (i := 1) rfl
  have z2 := hz2.cell (i := 2) rfl
  have z3 := hz2.cell (i := 3) rfl
  have z4 := hz2.cell (i := 4) rfl
  have z5 := hz2.cell (i := 5) rfl
  have zf : ∀ i, w2.frozen? ⟨w.heap.size, i, none⟩ = false := hz2.frozen
  have HZ2 := Lib.hid hz2
  clear hx2 hz2 hw2
  go_wp2
  have y0 := BlkAt.set HZ2.out 0 (.int .i64 n.acc)
  have y1 := BlkAt.set y0 1 (.int .i64 n.cur)
  have y2 := BlkAt.set y1 2 (.int .i64 n.beg.1)
  have y3 := BlkAt.set y2 3 (.int .i64 n.beg.2)
  have y4 := BlkAt.set y3 4 (.string (bs n.img))
  have y5 := BlkAt.set y4 5 (.slice a1 L.length k1)
  have q0 := y0.cell (i := 0) (v := .int .i64 n.acc) rfl
  have q1 := y1.cell (i := 1) (v := .int .i64 n.cur) rfl
  have q2 := y2.cell (i := 2) (v := .int .i64 n.beg.1) rfl
  have q3 := y3.cell (i := 3) (v := .int .i64 n.beg.2) rfl
  have q4 := y4.cell (i := 4) (v := .string (bs n.img)) rfl
  have q5 := y5.cell (i := 5) (v := .slice a1 L.length k1) rfl
  have hG : w2.grownBy (w2.setCells w.heap.size 0 [.int .i64 n.acc, .int .i64 n.cur, .int .i64 n.beg.1, .int .i64 n.beg.2, .string (bs n.img), .slice a1 L.length k1]) (some w.heap.size) := grown_sets _ _ _ _
  have hBe := HB5.out.grown hG HB5.out.size (by intro k hk; simp only [Option.some.injEq] at hk; omega)
  have hEe := EntsAt.kept HE2.out hG (fun b hb => by have := HL1.out.2.2 b hb; simp at this; simp; omega)
  clear y0 y1 y2 y3 y4 y5
  refine bodyPost_ret (v := .agg #[.int .i64 n.acc, .int .i64 n.cur, .int .i64 n.beg.1, .int .i64 n.beg.2, .string (bs n.img), .slice a1 L.length k1]) ?_ rfl ⟨_, rfl, ⟨a1, k1, rfl, hEe, h1, HL1.out.2.1⟩, (fun b hb => Nat.le_trans HB2.out.size (HL1.out.2.2 b hb)), hBe⟩
  simp [results, Tryz.results11, go_sem, q0, q1, q2, q3, q4, q5]
theorem state_any (g : Nat) (n : Nd) (hf : n.fit) (L : List Ent) (w : World) (h : NodeAt g n w) (hL : LogAt n L w) :
    Calls Tryz.prog 11 #[ptrV g] w fun e w' => ∃ v, e = .returned (stateV n v) ∧ LogOf v L w' ∧ Below w.heap.size w w' :=
  (state_own g n hf L w h hL).mono fun _ _ ⟨v, h1, h2, _, h3⟩ => ⟨v, h1, h2, h3⟩
end Go.Proofs.YtkidhbflojlmoaaGreat
