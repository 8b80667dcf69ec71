/- The walk of info. Conditions: as each theorem says. -/
import Derived.Test.YtkidhbflojlmoaaGreatZabF
namespace Go.Proofs.YtkidhbflojlmoaaGreat
open Go.RowKit

abbrev InfT : TypeId := 95
def infV (k e o : Int) (z : Int × Int) : Value := .agg #[.int .i64 k, .int .i64 e, .int .i64 o, .int .i64 z.1, .int .i64 z.2]
set_option maxRecDepth 100000 in
set_option maxHeartbeats 4000000 in
theorem info_commit (g : Nat) (n : Nd) (k : Int) (hk : k = 5 ∨ k = 7) (w : World) (h : NodeAt g n w) :
    Calls Tryz.prog 39 #[ptrV g, .int .i64 k] w fun e w' => e = .returned (infV k n.acc 0 n.commit) ∧ Below w.heap.size w w' := by
  have c0 : w.cell? ⟨g, 0, none⟩ = some (.int .i64 n.acc) := h.cell (by rfl)
  have c12 : w.cell? ⟨g, 12, none⟩ = some (.int .i64 n.commit.1) := h.cell (by rfl)
  have c13 : w.cell? ⟨g, 13, none⟩ = some (.int .i64 n.commit.2) := h.cell (by rfl)
  have hlt : g < w.heap.size := BlkAt.lt h
  have HB := Lib.hid (fun o => alloc_below w o)
  unfold ptrV infV
  generalize n.acc = ac at *
  generalize n.commit = z at *
  clear h
  have e3 : (k == 3) = false := beq_eq_false_iff_ne.2 (by omega)
  rcases hk with rfl | rfl
  · have e5 : ((5 : Int) == 5) = true := rfl
    go_enter Tryz.func39, Tryz.ntmps39
    go_wp2_with (fail)
    go_region
    go_wp2
    exact bodyPost_ret (v := .agg #[.int .i64 5, .int .i64 ac, .int .i64 0, .int .i64 z.1, .int .i64 z.2]) (by simp [results, Tryz.results39, go_sem]) rfl ⟨rfl, first_drew (HB.out _)⟩
  · have e5 : ((7 : Int) == 5) = false := rfl
    have e7 : ((7 : Int) == 7) = true := rfl
    go_enter Tryz.func39, Tryz.ntmps39
    go_wp2_with (fail)
    go_region
    go_wp2
    exact bodyPost_ret (v := .agg #[.int .i64 7, .int .i64 ac, .int .i64 0, .int .i64 z.1, .int .i64 z.2]) (by simp [results, Tryz.results39, go_sem]) rfl ⟨rfl, first_drew (HB.out _)⟩
set_option maxRecDepth 100000 in
set_option maxHeartbeats 4000000 in
theorem info_last (g : Nat) (n : Nd) (L : List Ent) (k : Int) (h3 : k ≠ 3) (h5 : k ≠ 5) (h7 : k ≠ 7) (w : World) (h : NodeAt g n w) (hL : LogAt n L w) :
    Calls Tryz.prog 39 #[ptrV g, .int .i64 k] w fun e w' => e = .returned (infV k n.acc 0 (lastN n L)) ∧ Below w.heap.size w w' := by
  have c0 : w.cell? ⟨g, 0, none⟩ = some (.int .i64 n.acc) := h.cell (by rfl)
  have hlt : g < w.heap.size := BlkAt.lt h
  have HB := Lib.hid (fun o => alloc_below w o)
  have HLa := Lib.hid (fun W (hB : Below w.heap.size w W) => last_any g n L W (BlkAt.grew h hB) (LogOf.grew hL hB))
  have HZ := Lib.hid (BlkAt.alloc_new w [.int .i64 0, .int .i64 0, .int .i64 0, .int .i64 0, .int .i64 0] InfT)
  unfold ptrV infV
  unfold ptrV zxidV at HLa
  generalize n.acc = ac at *
  generalize lastN n L = z at *
  clear h hL
  have e3 : (k == 3) = false := beq_eq_false_iff_ne.2 h3
  have e5 : (k == 5) = false := beq_eq_false_iff_ne.2 h5
  have e7 : (k == 7) = false := beq_eq_false_iff_ne.2 h7
  clear h3 h5 h7
  go_enter Tryz.func39, Tryz.ntmps39
  go_wp2_with (fail)
  go_region_with (go_at_call 28; (with_reducible refine (HLa.out _ (by first | exact HB.out _ | exact first_drew (HB.out _))).mono ?_); rintro e w1 ⟨rfl, hb1⟩; have c0b := Grew.cell hb1 (Grew.cell (HB.out (.cells #[.int .i64 0, .int .i64 0, .int .i64 0, .int .i64 0, .int .i64 0] InfT)) c0); have hz := BlkAt.grew (BlkAt.drew HZ.out) hb1; have z0 := hz.cell (i := 0) rfl; have z1 := hz.cell (i := 1) rfl; have z2 := hz.cell (i := 2) rfl; have z3 := hz.cell (i := 3) rfl; have z4 := hz.cell (i := 4) rfl; have zf := hz.frozen; have HZ1 := Lib.hid hz; have HB1 := Lib.hid ((first_drew (HB.out (.cells #[.int .i64 0, .int .i64 0, .int .i64 0, .int .i64 0, .int .i64 0] InfT))).trans (hb1.mono (HB.out _).size)); clear hz hb1)
  all_goals
    go_wp2
    have y0 := BlkAt.set HZ1.out 0 (.int .i64 k)
    have y1 := BlkAt.set y0 1 (.int .i64 ac)
    have y2 := BlkAt.set y1 2 (.int .i64 0)
    have y3 := BlkAt.set y2 3 (.int .i64 z.1)
    have y4 := BlkAt.set y3 4 (.int .i64 z.2)
    have q0 := y0.cell (i := 0) (v := .int .i64 k) rfl
    have q1 := y1.cell (i := 1) (v := .int .i64 ac) rfl
    have q2 := y2.cell (i := 2) (v := .int .i64 0) rfl
    have q3 := y3.cell (i := 3) (v := .int .i64 z.1) rfl
    have q4 := y4.cell (i := 4) (v := .int .i64 z.2) rfl
    have hG : w1.grownBy (w1.setCells w.heap.size 0 [.int .i64 k, .int .i64 ac, .int .i64 0, .int .i64 z.1, .int .i64 z.2]) (some w.heap.size) := grown_sets _ _ _ _
    have hBe := HB1.out.grown hG HB1.out.size (by intro k hk; simp only [Option.some.injEq] at hk; omega)
    clear y0 y1 y2 y3 y4
    exact bodyPost_ret (v := .agg #[.int .i64 k, .int .i64 ac, .int .i64 0, .int .i64 z.1, .int .i64 z.2]) (by simp [results, Tryz.results39, go_sem, q0, q1, q2, q3, q4]) rfl ⟨rfl, hBe⟩
end Go.Proofs.YtkidhbflojlmoaaGreat
