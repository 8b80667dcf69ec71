/- The walks of Start, and of New of a node that is alone and kept nothing. Conditions: as each theorem says. -/
import Derived.Test.YtkidhbflojlmoaaGreatZabJ
namespace Go.Proofs.YtkidhbflojlmoaaGreat
open Go.RowKit

set_option maxRecDepth 100000 in
set_option maxHeartbeats 1000000 in
theorem Start_one (g : Nat) (n : Nd) (hl : n.lone) (ha0 : 0 ≤ n.acc) (ha1 : n.acc ≤ 1099511627775) (hc : 0 ≤ n.cur) (L : List Ent) (hz1 : 0 ≤ (lastN n L).1) (hz2 : 0 ≤ (lastN n L).2) (b0 : Option Addr) (hb0 : n.pv = .pointer b0) (hov : n.ov = nilS) (w : World) (h : NodeAt g n w) (hL : LogAt n L w) (hfl : ∀ b, n.lv.ownBlock = some b → b ≠ g) :
    Calls Tryz.prog 15 #[ptrV g] w fun e w' => e = .returned nilS ∧ (∃ q, NodeAt g (startN n L q) w') ∧ w.grownBy w' (some g) := by
  have HS := start_one g n hl ha0 ha1 hc L hz1 hz2 b0 hb0 w h hL hfl
  have HO := fun q W (hW : NodeAt g (startN n L q) W) => outs_any g (startN n L q) ⟨by show 1 ≤ n.nodes; rw [hl.nodes]; omega, by show n.nodes ≤ 7; rw [hl.nodes]; omega, by show n.me < n.nodes; rw [hl.nodes, hl.me]; omega, rfl⟩ none 0 0 hov W hW
  have e : ∀ q, ({ startN n L q with ov := nilS } : Nd) = startN n L q := fun q => by
    show _ = ({ startN n L q with ov := n.ov } : Nd)
    rw [hov]
  simp only [e] at HO
  have e2 : ∀ q, (startN n L q).ov = nilS := fun q => hov
  simp only [e2] at HO
  unfold ptrV nilS at HO ⊢
  unfold ptrV at HS
  have HS := Lib.hid HS
  have HO := Lib.hid HO
  clear h hL e e2
  go_enter Tryz.func15, Tryz.ntmps15
  go_wp2_with (first
    | (go_at_call 34; (with_reducible refine HS.out.mono ?_); rintro e w1 ⟨rfl, ⟨q, h1⟩, hg1⟩)
    | (go_at_call 33; (with_reducible refine (HO.out q _ h1).mono ?_); rintro e w2 ⟨rfl, h2, hg2⟩))
  go_ret
  exact ⟨rfl, ⟨q, h2⟩, hg1.trans hg2⟩
set_option maxRecDepth 100000 in
theorem great_zero (w : World) : Calls Tryz.prog 50 #[.agg #[.int .i64 0, .int .i64 0]] w fun e w' => e = .returned (.bool false) ∧ Below w.heap.size w w' := by
  go_enter Tryz.func50, Tryz.ntmps50
  have HB := Lib.hid (fun o => alloc_below w o)
  go_wp2
  go_ret
  exact ⟨rfl, HB.out _⟩
set_option maxRecDepth 100000 in
theorem index_nil (f : Value) (w : World) : Calls Tryz.prog 77 #[.slice none 0 0, f] w fun e w' => e = .returned (.int .i64 (-1)) ∧ w' = w := by
  go_enter Tryz.func77, Tryz.ntmps77
  go_wp2
  go_loopg [8] 1 (fun gk v8 wr => v8 = .int .i64 0 ∧ wr = w)
  case atStart => exact ⟨rfl, rfl⟩
  case round =>
    obtain ⟨rfl, rfl⟩ := hrel
    go_wp2
    go_ret
    exact ⟨rfl, rfl⟩
set_option maxRecDepth 100000 in
theorem contains_nil (f : Value) (w : World) : Calls Tryz.prog 52 #[.slice none 0 0, f] w fun e w' => e = .returned (.bool false) ∧ w' = w := by
  have HI := Lib.hid (index_nil f w)
  go_enter Tryz.func52, Tryz.ntmps52
  go_wp2_with (go_at_call 77; (with_reducible refine HI.out.mono ?_); rintro e w1 ⟨rfl, rfl⟩)
  go_ret
  exact ⟨rfl, rfl⟩
/-- An operation whose run is known. -/
theorem wpList_known {P : Program} {ops : Array Oper} {rest : List Oper} {o : Oper} {a : Act} {w w' : World} {Q : Exit → Act → World → Prop} (v : Value) (hgd : o.guard = none) (hrun : (execOp a.eval o).run P w = .ok (.value v) w') (hK : wpList P ops Q rest (a.put o.dst v) w') : wpList P ops Q (o :: rest) a w :=
  wpList_plain hgd fun K hKK => by
    unfold Oper.wp
    rw [hrun]
    exact hKK _ _ hK
def ndZ : Nd := ⟨0, 0, (0, 0), [], nilS, 0, 0, 0, 0, 0, 0, (0, 0), .pointer none, 0, peers0, nilS⟩
theorem zero_node : ∃ zs : Array Value, (∀ W, (zeroValue 81).run Tryz.prog W = .ok (.agg zs) W) ∧ zs.size = 80 ∧ zs = (ndCells ndZ).toArray :=
  ⟨(ndCells ndZ).toArray, fun W => by kernel_rfl, by kernel_rfl, rfl⟩
def nd0 : Nd := ⟨0, 0, (0, 0), [], nilS, 0, 1, 1, -1, 0, 0, (0, 0), .pointer none, 0, peers0, nilS⟩
theorem nd0_lone : nd0.lone := ⟨rfl, rfl, rfl⟩
set_option maxRecDepth 100000 in
set_option maxHeartbeats 4000000 in
theorem new_zero (w : World) : Calls Tryz.prog 22 #[.int .i64 0, .int .i64 1, .agg #[.int .i64 0, .int .i64 0, .int .i64 0, .int .i64 0, .string ⟨#[]⟩, .slice none 0 0]] w fun e w' => ∃ g, e = .returned (.tuple #[ptrV g, .int .i64 0]) ∧ w.heap.size ≤ g ∧ NodeAt g nd0 w' ∧ Below w.heap.size w w' := by
  have HNw : ∀ W, Calls Tryz.prog 49 #[.int .i64 0, .int .i64 1, .agg #[.int .i64 0, .int .i64 0], .int .i64 0] W fun e w' => ∃ q, e = .returned (.tuple #[.pointer (some ⟨q, 0, none⟩), .int .i64 0]) ∧ W.heap.size ≤ q ∧ PollAt q (newP 0 1 ⟨0, 0, 0, 0⟩) w' ∧ Below W.heap.size W w' :=
    fun W => new_any 0 1 (0, 0) 0 (by omega) (by omega) (by omega) (by omega) (by simp) (by simp) W
  have HNw := Lib.hid HNw
  have HR : ∀ W, Calls Tryz.prog 51 #[.slice none 0 0] W fun e w' => e = .returned (.bool true) ∧ Below W.heap.size W w' := fun W => right_any [] none 0 W ⟨none, 0, rfl, fun i hi => by simp at hi⟩ (by simp)
  have HR := Lib.hid HR
  have HC := Lib.hid (clone_nil 0)
  have HCo := Lib.hid contains_nil
  have HGr := Lib.hid great_zero
  have HS := Lib.hid (BlkAt.alloc_new w [.int .i64 0, .int .i64 0, .int .i64 0, .int .i64 0, .string ⟨#[]⟩, .slice none 0 0] StaT)
  have HB := Lib.hid (alloc_below w (.cells #[.int .i64 0, .int .i64 0, .int .i64 0, .int .i64 0, .string ⟨#[]⟩, .slice none 0 0] StaT))
  unfold ptrV
  go_enter Tryz.func22, Tryz.ntmps22
  go_upto_region 4 with (go_at_call 49; (with_reducible refine (HNw.out _).mono ?_); rintro e w1 ⟨q, rfl, -, -, hb1⟩)
  have H1 := Lib.hid (BlkAt.grew HS.out hb1)
  have HB1 := Lib.hid (HB.out.trans (hb1.mono HB.out.size))
  have x0 := H1.out.cell (i := 0) rfl
  have x1 := H1.out.cell (i := 1) rfl
  have x2 := H1.out.cell (i := 2) rfl
  have x3 := H1.out.cell (i := 3) rfl
  have x4 := H1.out.cell (i := 4) rfl
  have x5 := H1.out.cell (i := 5) rfl
  clear hb1
  go_upto_region 6 with (first
    | (go_at_call 50; (with_reducible refine (HGr.out _).mono ?_); rintro e w2 ⟨rfl, hb2⟩; have x5 := Grew.cell hb2 x5)
    | (go_at_call 51; (with_reducible refine (HR.out _).mono ?_); rintro e w3 ⟨rfl, hb3⟩))
  have hb := hb2.trans (hb3.mono hb2.size)
  have H3 := Lib.hid (BlkAt.grew H1.out hb)
  have HB3 := Lib.hid (HB1.out.trans (hb.mono HB1.out.size))
  clear x0 x1 x2 x3 x4 x5 hb hb2 hb3
  have x0 := H3.out.cell (i := 0) rfl
  have x1 := H3.out.cell (i := 1) rfl
  have x2 := H3.out.cell (i := 2) rfl
  have x3 := H3.out.cell (i := 3) rfl
  have x4 := H3.out.cell (i := 4) rfl
  have x5 := H3.out.cell (i := 5) rfl
  have xf := H3.out.frozen
  go_region
  go_upto_region 11 with (first
    | (go_at_call 52; (with_reducible refine (HCo.out _ _).mono ?_); rintro e w4 ⟨rfl, rfl⟩)
    | (go_at_call 27; (with_reducible refine (HC.out _).mono ?_); rintro e w5 ⟨rfl, rfl⟩))
  have H5 : BlkAt w.heap.size StaT [.int .i64 0, .int .i64 0, .int .i64 0, .int .i64 0, .string ⟨#[]⟩, .slice none 0 0] _ := BlkAt.drew (BlkAt.set H3.out 5 (.slice none 0 0))
  have HB5 : Below w.heap.size w _ := first_drew (bel_set HB3.out (Nat.le_refl _) 5 (.slice none 0 0))
  generalize (w3.setCell ⟨w.heap.size, 5, none⟩ (.slice none 0 0)).drew = w5 at *
  have H5 := Lib.hid H5
  clear x0 x1 x2 x3 x4 x5 xf
  have x0 := H5.out.cell (i := 0) rfl
  have x1 := H5.out.cell (i := 1) rfl
  have x2 := H5.out.cell (i := 2) rfl
  have x3 := H5.out.cell (i := 3) rfl
  have x4 := H5.out.cell (i := 4) rfl
  have x5 := H5.out.cell (i := 5) rfl
  have HN : NodeAt w5.heap.size nd0 _ := BlkAt.alloc_new w5 (ndCells nd0) NodT
  have HBN : Below w.heap.size w (w5.alloc (.cells (ndCells nd0).toArray NodT)) := HB5.alloc HB5.size _
  have HN := Lib.hid (And.intro HN HBN)
  have hsz := HB5.size
  clear HBN HB5
  obtain ⟨zs, hz, hzs, hze⟩ := zero_node
  go_wp2
  go_ret2
  exact ⟨w5.heap.size, rfl, hsz, HN.out.1, HN.out.2⟩
end Go.Proofs.YtkidhbflojlmoaaGreat
