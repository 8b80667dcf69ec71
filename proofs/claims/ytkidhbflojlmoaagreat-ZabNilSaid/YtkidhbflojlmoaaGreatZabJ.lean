/- The walks of start and Start, of a node that is alone. Conditions: as each theorem says. -/
import Derived.Test.YtkidhbflojlmoaaGreatZabI
namespace Go.Proofs.YtkidhbflojlmoaaGreat
open Go.RowKit

theorem grown_new {w w1 w2 : World} {g q : Nat} (h1 : w.grownBy w1 (some g)) (h2 : w1.grownBy w2 (some q)) (hq : w.heap.size ≤ q) : w.grownBy w2 (some g) :=
  ⟨h2.os.trans h1.os, h2.tape.trans h1.tape, h2.output.trans h1.output, Nat.le_trans h1.size h2.size, fun k hk hne => (h2.block k (Nat.lt_of_lt_of_le hk h1.size) (by simp only [ne_eq, Option.some.injEq]; omega)).trans (h1.block k hk hne)⟩
def loneP (z : Int × Int) (e : Int) : Poll := beginP (newP 0 1 ⟨0, z.1, z.2, e⟩)
theorem lone_fit (z : Int × Int) (e : Int) : (newP 0 1 ⟨0, z.1, z.2, e⟩).fit := new_fit 0 1 _ (by omega) (by omega) (by omega)
theorem lone_no (z : Int × Int) (e : Int) : noOne (loneP z e) := by
  intro i h
  have : i < 7 := h
  match i, this with
  | 0, _ => rfl
  | 1, _ => rfl
  | 2, _ => rfl
  | 3, _ => rfl
  | 4, _ => rfl
  | 5, _ => rfl
  | 6, _ => rfl
theorem lone_won (z : Int × Int) (e : Int) : wonP (loneP z e) = (0, true) := by
  have hv : votesN (loneP z e) 1 = 1 := by
    show List.countP (fun t => decide (t = (true, (loneP z e).now))) [(true, (loneP z e).now)] = 1
    simp
  unfold wonP
  rw [show (loneP z e).nodes = 1 from rfl, hv]
  rfl
def lookN (n : Nd) (q : Nat) : Nd := { n with is := 1, leader := -1, step := 0, idle := 0, pv := ptrV q }
def startN (n : Nd) (L : List Ent) (q : Nat) : Nd := wonN (lookN n q) L
theorem NodeAt.looks {g : Nat} {n : Nd} {w : World} (h : NodeAt g n w) :
    NodeAt g { n with is := 1, leader := -1, step := 0, idle := 0 } ((((w.setCell ⟨g, 8, none⟩ (.int .i64 1)).setCell ⟨g, 9, none⟩ (.int .i64 (-1))).setCell ⟨g, 10, none⟩ (.int .i64 0)).setCell ⟨g, 11, none⟩ (.int .i64 0)) :=
  BlkAt.set (BlkAt.set (BlkAt.set (BlkAt.set h 8 (.int .i64 1)) 9 (.int .i64 (-1))) 10 (.int .i64 0)) 11 (.int .i64 0)
theorem NodeAt.polled {g : Nat} {n : Nd} {w : World} (h : NodeAt g n w) (v : Value) : NodeAt g { n with pv := v } (w.setCell ⟨g, 14, none⟩ v) :=
  BlkAt.set h 14 v
theorem far14 {g i : Nat} {w : World} {v x : Value} (hi : i ≠ 14) (h : w.cell? ⟨g, i, none⟩ = some x) : (w.setCell ⟨g, 14, none⟩ v).cell? ⟨g, i, none⟩ = some x := by
  rw [World.cell?_setCell_other w _ _ v (by intro e; simp only [Addr.mk.injEq, and_true, true_and] at e; exact hi e.symm)]
  exact h
set_option maxRecDepth 100000 in
set_option maxHeartbeats 4000000 in
theorem start_one (g : Nat) (n : Nd) (hl : n.lone) (ha0 : 0 ≤ n.acc) (ha1 : n.acc ≤ 1099511627775) (hc : 0 ≤ n.cur) (L : List Ent) (hz1 : 0 ≤ (lastN n L).1) (hz2 : 0 ≤ (lastN n L).2) (b0 : Option Addr) (hb0 : n.pv = .pointer b0) (w : World) (h : NodeAt g n w) (hL : LogAt n L w) (hfl : ∀ b, n.lv.ownBlock = some b → b ≠ g) :
    Calls Tryz.prog 34 #[ptrV g] w fun e w' => e = .returned (.tuple #[]) ∧ (∃ q, NodeAt g (startN n L q) w') ∧ w.grownBy w' (some g) := by
  have hN : n.nodes = 1 := hl.nodes
  have hM : n.me = 0 := hl.me
  have c8 : w.cell? ⟨g, 8, none⟩ = some (.int .i64 n.is) := h.cell (by rfl)
  have c9 : w.cell? ⟨g, 9, none⟩ = some (.int .i64 n.leader) := h.cell (by rfl)
  have c10 : w.cell? ⟨g, 10, none⟩ = some (.int .i64 n.step) := h.cell (by rfl)
  have c11 : w.cell? ⟨g, 11, none⟩ = some (.int .i64 n.idle) := h.cell (by rfl)
  have cf := h.frozen
  have hlt : g < w.heap.size := BlkAt.lt h
  have H := Lib.hid h
  have HL := Lib.hid hL
  clear h hL
  unfold ptrV
  go_enter Tryz.func34, Tryz.ntmps34
  go_upto_region 1 with (fail)
  have H1 := NodeAt.looks H.out
  have hG1 : w.grownBy _ (some g) := (((grown_set w g 8 (.int .i64 1)).trans (grown_set _ g 9 (.int .i64 (-1)))).trans (grown_set _ g 10 (.int .i64 0))).trans (grown_set _ g 11 (.int .i64 0))
  generalize (((w.setCell ⟨g, 8, none⟩ (.int .i64 1)).setCell ⟨g, 9, none⟩ (.int .i64 (-1))).setCell ⟨g, 10, none⟩ (.int .i64 0)).setCell ⟨g, 11, none⟩ (.int .i64 0) = w1 at *
  clear c8 c9 c10 c11 cf
  have d6 : w1.cell? ⟨g, 6, none⟩ = some (.int .i64 0) := BlkAt.cell H1 (by show some (Value.int .i64 (n.me : Int)) = _; rw [hM]; rfl)
  have d7 : w1.cell? ⟨g, 7, none⟩ = some (.int .i64 1) := BlkAt.cell H1 (by show some (Value.int .i64 (n.nodes : Int)) = _; rw [hN]; rfl)
  have d1 : w1.cell? ⟨g, 1, none⟩ = some (.int .i64 n.cur) := BlkAt.cell H1 (by rfl)
  have d14 : w1.cell? ⟨g, 14, none⟩ = some (.pointer b0) := by rw [← hb0]; exact BlkAt.cell H1 (by rfl)
  have hL1 : LogAt n L w1 := LogOf.kept HL.out hG1 (fun b hb => by have := hfl b hb; simpa using this)
  have hlt1 : g < w1.heap.size := BlkAt.lt H1
  have HLa := Lib.hid (fun W (hB : Below w1.heap.size w1 W) => last_any g { n with is := 1, leader := -1, step := 0, idle := 0 } L W (BlkAt.grew H1 hB) (LogOf.grew hL1 hB))
  have HNw : ∀ W, Calls Tryz.prog 49 #[.int .i64 0, .int .i64 1, .agg #[.int .i64 (lastN n L).1, .int .i64 (lastN n L).2], .int .i64 n.cur] W fun e w' => ∃ q, e = .returned (.tuple #[.pointer (some ⟨q, 0, none⟩), .int .i64 0]) ∧ W.heap.size ≤ q ∧ PollAt q (newP 0 1 ⟨0, (lastN n L).1, (lastN n L).2, n.cur⟩) w' ∧ Below W.heap.size W w' :=
    fun W => new_any 0 1 (lastN n L) n.cur (by omega) (by omega) (by omega) hc hz1 hz2 W
  have HNw := Lib.hid HNw
  unfold ptrV zxidV at HLa
  rw [show lastN ({ n with is := 1, leader := -1, step := 0, idle := 0 } : Nd) L = lastN n L from rfl] at HLa
  have H1 := Lib.hid H1
  have HG1 := Lib.hid (And.intro hG1 hL1)
  clear hG1 hL1
  have hB := first_drew (Below.refl w1.heap.size w1)
  go_region_held3 (fun W => W.cell? ⟨g, 6, none⟩ = some (.int .i64 0) ∧ W.cell? ⟨g, 7, none⟩ = some (.int .i64 1) ∧ W.cell? ⟨g, 1, none⟩ = some (.int .i64 n.cur)) (first | exact ⟨Grew.cell hB d6, Grew.cell hB d7, Grew.cell hB d1⟩ | exact ⟨far14 (by decide) (Grew.cell hB d6), far14 (by decide) (Grew.cell hB d7), far14 (by decide) (Grew.cell hB d1)⟩ | go_keep) (first
    | (go_at_call 28; (with_reducible refine (HLa.out _ hB).mono ?_); rintro e w2 ⟨rfl, hb2⟩; have hB := hB.trans (hb2.mono hB.size))
    | (go_at_call 49; (with_reducible refine (HNw.out _).mono ?_); rintro e w3 ⟨q, rfl, hq, hP, hb3⟩; have hq := Nat.le_trans hB.size hq; have hB := hB.trans (hb3.mono hB.size); have d14 := Grew.cell hB d14; have cf := (BlkAt.grew H1.out hB).frozen))
  have hne : some q ≠ some g := by simp only [ne_eq, Option.some.injEq]; omega
  have H4 : NodeAt g (lookN n q) _ := NodeAt.polled (BlkAt.grew H1.out hB) (ptrV q)
  have hG4 : w.grownBy _ (some g) := (HG1.out.1.trans (grown_below hB (some g))).trans (grown_set w3 g 14 (ptrV q))
  have hP4 : PollAt q (newP 0 1 ⟨0, (lastN n L).1, (lastN n L).2, n.cur⟩) _ := BlkAt.grown hP (grown_set w3 g 14 (ptrV q)) hne
  unfold ptrV at H4 hG4 hP4
  generalize w3.setCell ⟨g, 14, none⟩ (.pointer (some ⟨q, 0, none⟩)) = w4 at *
  have hqw : w.heap.size ≤ q := Nat.le_trans HG1.out.1.size hq
  have e14 : w4.cell? ⟨g, 14, none⟩ = some (.pointer (some ⟨q, 0, none⟩)) := BlkAt.cell H4 (by rfl)
  have HBg := begin_any q _ (lone_fit (lastN n L) n.cur) (Int.le_refl _) (by show (0 : Int) ≤ _; omega) w4 hP4
  unfold ptrV at HBg
  have HBg := Lib.hid HBg
  have H4 := Lib.hid (And.intro H4 hG4)
  clear hG4 hP4 hP hb2 hb3 hB d14 cf d6 d7 d1 HG1 HLa HNw H1
  go_upto_region 3 with (go_at_call 58; (with_reducible refine HBg.out.mono ?_); rintro e w5 ⟨rfl, hP5, hg5⟩)
  have H5 : NodeAt g (lookN n q) w5 := BlkAt.grown H4.out.1 hg5 (Ne.symm hne)
  have hG5 : w.grownBy w5 (some g) := grown_new H4.out.2 hg5 hqw
  have e14 : w5.cell? ⟨g, 14, none⟩ = some (.pointer (some ⟨q, 0, none⟩)) := BlkAt.cell H5 (by rfl)
  have HV := voteM_any q _ w5 hP5
  have HT := fun (f x : Value) W (hB : Below w5.heap.size w5 W) => those_one g (lookN n q) ⟨hN, hM, hl.peers⟩ f x W (BlkAt.grew H5 hB)
  unfold ptrV votV at HV
  unfold ptrV at HT
  have HV := Lib.hid HV
  have HT := Lib.hid HT
  have H5 := Lib.hid (And.intro H5 (And.intro hG5 hP5))
  clear hG5 hP5 hg5 H4 HBg
  go_upto_region 4 with (first
    | (go_at_call 37; (with_reducible refine HV.out.mono ?_); rintro e w6 ⟨rfl, hb6⟩)
    | (go_at_call 30; (with_reducible refine (HT.out _ _ _ hb6).mono ?_); rintro e w7 ⟨rfl, hb7⟩))
  have hb := hb6.trans (hb7.mono hb6.size)
  have hG7 : w.grownBy w7 (some g) := H5.out.2.1.trans (grown_below hb (some g))
  have HW := won_one g q (lookN n q) (loneP (lastN n L) n.cur) ⟨hN, hM, hl.peers⟩ ha0 ha1 (begin_fit _ (lone_fit _ _)) (lone_no _ _) (lone_won _ _) rfl L w7 (BlkAt.grew H5.out.1 hb) (BlkAt.grew H5.out.2.2 hb) (LogOf.kept HL.out hG7 (fun b hb => by have := hfl b hb; simpa using this)) hfl
  unfold ptrV at HW
  have HW := Lib.hid HW
  have HG7 := Lib.hid hG7
  clear hG7 H5 HV HT hb hb6 hb7
  go_wp2_with (go_at_call 59; (with_reducible refine HW.out.mono ?_); rintro e w8 ⟨rfl, H8, hg8⟩)
  go_end0
  exact ⟨rfl, ⟨q, H8⟩, HG7.out.trans hg8⟩
end Go.Proofs.YtkidhbflojlmoaaGreat
