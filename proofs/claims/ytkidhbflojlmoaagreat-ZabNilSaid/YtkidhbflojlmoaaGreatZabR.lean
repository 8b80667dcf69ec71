/- The walk of Propose, of a node that is alone. Conditions: as each theorem says. -/
import Derived.Test.YtkidhbflojlmoaaGreatZabO
import Derived.Deep.RegionLaw
namespace Go.Proofs.YtkidhbflojlmoaaGreat
open Go.RowKit

/-- An append whose run is known. -/
theorem step_append_eq {P : Program} {w : World} {ops : Array Oper} {o : Oper} {a : Act} {K : Act → World → Prop} {Q : Exit → Act → World → Prop} {E : Prop} (hgd : o.guard = none) (x y : Operand) (t : TypeId) (ho : o.op = .call { callee := .builtin .append, args := #[x, y], argTypes := #[t, t] })
    (v u r : Value) (w' : World) (hx : a.eval x = v) (hy : a.eval y = u) (hrun : (Builtin.append_ #[t, t] o.type #[v, u]).run P w = .ok r w') (hK : K (a.put o.dst r) w') : if Region.wanted o (yielded ops a.tmps) = true then Oper.wp P o a w K Q else E := by
  rw [if_pos (by simp [Region.wanted, hgd])]
  unfold Oper.wp
  simp [execOp, ho, resolve, invoke, builtin, hx, hy, hrun, Result.andThen]
  exact hK
/-- A call that changes nothing, as a step of a region that draws its order. -/
theorem step_call_same {P : Program} {ops : Array Oper} {o : Oper} {a : Act} {w : World} {K : Act → World → Prop} {Q : Exit → Act → World → Prop} {E : Prop} (hgd : o.guard = none) (f : Nat) (x : Operand) (T : TypeId) (ho : o.op = .call { callee := .value (.func f), args := #[x], argTypes := #[T] })
    (u v : Value) (hx : a.eval x = u) (hE : (callFunc f #[u]).run P w = .ok (.enter f #[u]) w) (hc : Calls P f #[u] w fun e w' => e = .returned v ∧ w' = w) (hK : K (a.put o.dst v) w) : if Region.wanted o (yielded ops a.tmps) = true then Oper.wp P o a w K Q else E := by
  rw [if_pos (by simp [Region.wanted, hgd])]
  unfold Oper.wp
  have he : a.eval (.func f) = .func (.func f) #[] #[] := by simp [Act.eval]
  simp [execOp, ho, resolve, invoke, Deferred.ofValue, hx, he, hE, Result.andThen]
  refine hc.mono ?_
  rintro e w' ⟨rfl, rfl⟩
  exact hK
theorem outs_nil (g : Nat) (n : Nd) (hf : n.fit) (hv : n.ov = nilS) (w : World) (h : NodeAt g n w) :
    Calls Tryz.prog 33 #[ptrV g] w fun e w' => e = .returned nilS ∧ NodeAt g n w' ∧ w.grownBy w' (some g) := by
  refine (outs_any g n hf none 0 0 hv w h).mono ?_
  rintro e w' ⟨rfl, h1, h2⟩
  refine ⟨by rw [hv], ?_, h2⟩
  rw [← hv] at h1
  exact h1
def nextZ (acc : Int) (z : Int × Int) : Int × Int := if z.1 = acc then (acc, z.2 + 1) else (acc, 1)
set_option maxRecDepth 100000 in
set_option maxHeartbeats 4000000 in
theorem propose_one (g : Nat) (n : Nd) (hl : n.lone) (his : n.is = 3) (hst : n.step = 3) (hov : n.ov = nilS) (L : List Ent) (t : List UInt8) (hn : L.length < 900) (z : Int × Int) (hz : z = nextZ n.acc (lastN n L)) (hb0 : 0 ≤ (lastN n L).2) (hb1 : (lastN n L).2 ≤ 1000000) (hc : lessZ n.commit z = true)
    (w : World) (h : NodeAt g n w) (hL : LogAt n L w) (hfl : ∀ b, n.lv.ownBlock = some b → b ≠ g) :
    Calls Tryz.prog 14 #[ptrV g, .string (bs t)] w fun e w' => e = .returned (.tuple #[nilS, .int .i64 0]) ∧
      (∃ v, NodeAt g { n with lv := v, commit := z } w' ∧ LogOf v (L ++ [⟨z.1, z.2, t⟩]) w' ∧ ∀ b, v.ownBlock = some b → w.heap.size ≤ b) ∧ w.grownBy w' (some g) := by
  obtain ⟨a, c, hv, hE, hln, hlc⟩ := hL
  have c8 : w.cell? ⟨g, 8, none⟩ = some (.int .i64 3) := by rw [← his]; exact h.cell (by rfl)
  have c10 : w.cell? ⟨g, 10, none⟩ = some (.int .i64 3) := by rw [← hst]; exact h.cell (by rfl)
  have c5 : w.cell? ⟨g, 5, none⟩ = some (.slice a L.length c) := by rw [← hv]; exact h.cell (by rfl)
  have c0 : w.cell? ⟨g, 0, none⟩ = some (.int .i64 n.acc) := h.cell (by rfl)
  have hlt : g < w.heap.size := BlkAt.lt h
  rw [hv] at hE
  have HLa := fun W (hB : Below w.heap.size w W) => last_any g n L W (BlkAt.grew h hB) ⟨a, c, hv, by rw [hv]; exact EntsAt.grew hE hB, hln, hlc⟩
  unfold ptrV zxidV at HLa
  have HLa := Lib.hid HLa
  have H := Lib.hid (And.intro h hE)
  have e900 : decide (900 ≤ (L.length : Int)) = false := decide_eq_false (by omega)
  have HB := Lib.hid (alloc_below w (.cells #[.int .i64 n.acc, .int .i64 1] 41))
  have HZ0 := Lib.hid (BlkAt.alloc_new w [.int .i64 n.acc, .int .i64 1] 41)
  unfold ptrV nilS
  have HV := Lib.hid hv
  have HZ1 := Lib.hid (show z.1 = n.acc by rw [hz]; unfold nextZ; split <;> rfl)
  clear h hE hv
  go_enter Tryz.func14, Tryz.ntmps14
  go_upto_region 9 with (go_at_call 28; (with_reducible refine (HLa.out _ HB.out).mono ?_); rintro e w1 ⟨rfl, hb1'⟩)
  have hb1 : Below w.heap.size w w1 := HB.out.trans (hb1'.mono HB.out.size)
  have hA1 := BlkAt.grew HZ0.out hb1'
  have hB2 := hb1.alloc hb1.size (.cells #[.int .i64 (lastN n L).1, .int .i64 (lastN n L).2] 41)
  have hA2 := BlkAt.grew hA1 (alloc_below w1 (.cells #[.int .i64 (lastN n L).1, .int .i64 (lastN n L).2] 41))
  have hL2 := BlkAt.alloc_new w1 [.int .i64 (lastN n L).1, .int .i64 (lastN n L).2] 41
  have hs1 : w.heap.size < w1.heap.size := Nat.lt_of_lt_of_le (by simp) hb1'.size
  generalize w1.alloc (.cells #[.int .i64 (lastN n L).1, .int .i64 (lastN n L).2] 41) = w2 at *
  have l0 : w2.cell? ⟨w1.heap.size, 0, none⟩ = some (.int .i64 (lastN n L).1) := hL2.cell rfl
  have l1 : w2.cell? ⟨w1.heap.size, 1, none⟩ = some (.int .i64 (lastN n L).2) := hL2.cell rfl
  have a0 : w2.cell? ⟨w.heap.size, 0, none⟩ = some (.int .i64 n.acc) := hA2.cell rfl
  have a1 : w2.cell? ⟨w.heap.size, 1, none⟩ = some (.int .i64 1) := hA2.cell rfl
  have af := hA2.frozen
  have HA2 := Lib.hid hA2
  have HB2 := Lib.hid hB2
  have HZ := Lib.hid hz
  clear hb1' hA1 hB2 hA2 hL2 HZ0 HB hb1 hs1 HLa c8 c10 c5 c0 hz
  generalize hw1 : w1.heap.size = b1 at *
  clear hw1
  by_cases hcase : (lastN n L).1 = n.acc
  · have eb : ((lastN n L).1 == n.acc) = true := beq_iff_eq.2 hcase
    have ez : z = (n.acc, (lastN n L).2 + 1) := by rw [HZ.out]; unfold nextZ; rw [if_pos hcase]
    have ew : IntKind.i64.wrap ((lastN n L).2 + 1) = (lastN n L).2 + 1 := IntWalk.i64_in _ (by omega)
    clear hcase
    go_upto_region 11 with (fail)
    have hA3 : BlkAt w.heap.size 41 [.int .i64 z.1, .int .i64 z.2] (w2.setCell ⟨w.heap.size, 1, none⟩ (.int .i64 ((lastN n L).2 + 1))) := by rw [ez]; exact BlkAt.set HA2.out 1 (.int .i64 ((lastN n L).2 + 1))
    have hB3 : Below w.heap.size w (w2.setCell ⟨w.heap.size, 1, none⟩ (.int .i64 ((lastN n L).2 + 1))) := bel_set HB2.out (Nat.le_refl _) 1 (.int .i64 ((lastN n L).2 + 1))
    generalize w2.setCell ⟨w.heap.size, 1, none⟩ (.int .i64 ((lastN n L).2 + 1)) = w3 at *
    have HA3 := Lib.hid hA3
    have HB3 := Lib.hid hB3
    clear l0 l1 a0 a1 af hA3 hB3 ew eb ez HA2 HB2
    have a0 : w3.cell? ⟨w.heap.size, 0, none⟩ = some (.int .i64 z.1) := HA3.out.cell rfl
    have a1 : w3.cell? ⟨w.heap.size, 1, none⟩ = some (.int .i64 z.2) := HA3.out.cell rfl
    have hE4 := BlkAt.alloc_new w3 (entCells ⟨z.1, z.2, t⟩) EntT
    have hB4 : Below w.heap.size w (w3.alloc (.cells (entCells ⟨z.1, z.2, t⟩).toArray EntT)) := HB3.out.alloc HB3.out.size _
    have HE4 := Lib.hid (And.intro hE4 hB4)
    clear hE4 hB4
    go_upto_region 12 with (fail)
    obtain ⟨hE4, hB4⟩ := HE4.out
    generalize hb3 : w3.heap.size = b3 at *
    obtain ⟨w4, hw4⟩ : ∃ w4, w4 = w3.alloc (.cells (entCells ⟨z.1, z.2, t⟩).toArray EntT) := ⟨_, rfl⟩
    rw [← hw4] at hE4 hB4
    have hw4' : w4 = w3.alloc (.cells #[.int .i64 z.1, .int .i64 z.2, .string (bs t)] EntT) := hw4
    rw [← hw4']
    have HB3g := Lib.hid (show some b3 ≠ some g by have := HB3.out.size; simp only [ne_eq, Option.some.injEq]; omega)
    clear hw4 hw4' HE4 HA3 HB3 a0 a1 hb3
    have x0 := hE4.cell (i := 0) (v := .int .i64 z.1) rfl
    have x1 := hE4.cell (i := 1) (v := .int .i64 z.2) rfl
    have x2 := hE4.cell (i := 2) (v := .string (bs t)) rfl
    have hN4 : NodeAt g n w4 := BlkAt.grew H.out.1 hB4
    have n5 : w4.cell? ⟨g, 5, none⟩ = some (.slice a L.length c) := by rw [← HV.out]; exact BlkAt.cell hN4 (by rfl)
    have hE := EntsAt.grew H.out.2 (first_drew hB4)
    have h0 : a = none → L.length = 0 := fun h => by
      rcases Nat.eq_zero_or_pos L.length with h' | h'
      · exact h'
      · obtain ⟨_, _, e, _⟩ := ents_get hE 0 h'; rw [h] at e; cases e
    have HCl := fun W => clip_any a L.length c hlc h0 W
    obtain ⟨b5, c5, w5, hrun, hL5, hb5, hB5⟩ := log_append a c L ⟨z.1, z.2, t⟩ w4.drew hE (by omega)
    have n5' : w5.cell? ⟨g, 5, none⟩ = some (.slice a L.length c) := Grew.cell hB5 (show w4.drew.cell? _ = _ from n5)
    have n5a : (w4.alloc (.cells #[.int .i64 z.1, .int .i64 z.2, .string (bs t)] EntT)).drew.cell? ⟨g, 5, none⟩ = some (.slice a L.length c) := Grew.cell (first_drew (alloc_below w4 _)) n5
    have n5f := (BlkAt.grew (show BlkAt g NodT (ndCells n) w4.drew from hN4) hB5).frozen
    have HX := Lib.hid (And.intro hE4 (And.intro hN4 (And.intro (And.intro hb5 hB5) (And.intro hL5 hB4))))
    have HR := Lib.hid hrun
    have HCl := Lib.hid HCl
    clear hE4 hB4 hN4 hE h0 hrun hL5 hb5 hB5
    go_region_law (first
      | (refine step_call_same (by rfl) 29 _ 27 (by rfl) _ _ (by rfl) (enters_of Tryz.func29 (by kernel_rfl) rfl _ _) (HCl.out _) ?_)
      | (refine step_append_eq (by rfl) _ _ EnsT (by rfl) _ _ _ _ (by rfl) (by rfl) HR.out ?_))
    all_goals
      obtain ⟨hE4, hN4, ⟨hb5, hB5⟩, hL5, hB4⟩ := HX.out
      have hB45 : Below w4.heap.size w4 w5 := (first_drew (Below.refl _ w4)).trans hB5
      have hN6 : NodeAt g { n with lv := .slice (some ⟨b5, 0, none⟩) (L.length + 1) c5 } (w5.setCell ⟨g, 5, none⟩ (.slice (some ⟨b5, 0, none⟩) (L.length + 1) c5)) := BlkAt.set (BlkAt.grew hN4 hB45) 5 (.slice (some ⟨b5, 0, none⟩) (L.length + 1) c5)
      have hG6 : w.grownBy (w5.setCell ⟨g, 5, none⟩ (.slice (some ⟨b5, 0, none⟩) (L.length + 1) c5)) (some g) := (grown_below (hB4.trans (hB45.mono hB4.size)) (some g)).trans (grown_set w5 g 5 _)
      have hb5g : b5 ≠ g := by have h1 := hB4.size; have h2 : w4.heap.size ≤ b5 := hb5; omega
      have hbw5 : w.heap.size ≤ b5 := Nat.le_trans hB4.size hb5
      have hL6 : LogOf (.slice (some ⟨b5, 0, none⟩) (L.length + 1) c5) (L ++ [⟨z.1, z.2, t⟩]) (w5.setCell ⟨g, 5, none⟩ (.slice (some ⟨b5, 0, none⟩) (L.length + 1) c5)) := LogOf.kept hL5 (grown_set w5 g 5 _) (fun b hb => by simp only [Value.ownBlock, Option.some.injEq] at hb; subst hb; simpa using hb5g)
      have hE6 : BlkAt b3 EntT (entCells ⟨z.1, z.2, t⟩) (w5.setCell ⟨g, 5, none⟩ (.slice (some ⟨b5, 0, none⟩) (L.length + 1) c5)) := BlkAt.grown (BlkAt.grew hE4 hB45) (grown_set w5 g 5 _) (HB3g.out)
      generalize w5.setCell ⟨g, 5, none⟩ (.slice (some ⟨b5, 0, none⟩) (L.length + 1) c5) = w6 at *
      generalize hsl : Value.slice (some ⟨b5, 0, none⟩) (L.length + 1) c5 = sl at *
      have hs5 : ∀ b, sl.ownBlock = some b → w.heap.size ≤ b := fun b hb => by rw [← hsl] at hb; simp only [Value.ownBlock, Option.some.injEq] at hb; omega
      have y0 := hE6.cell (i := 0) (v := .int .i64 z.1) rfl
      have y1 := hE6.cell (i := 1) (v := .int .i64 z.2) rfl
      have y2 := hE6.cell (i := 2) (v := .string (bs t)) rfl
      have hl6 : ({ n with lv := sl } : Nd).lone := ⟨hl.nodes, hl.me, hl.peers⟩
      have HT := Lib.hid (fun (f x : Value) => those_one g { n with lv := sl } hl6 f x w6 hN6)
      have HS := Lib.hid (fun W (hB : Below w6.heap.size w6 W) => settle_one g { n with lv := sl } hl6 L ⟨z.1, z.2, t⟩ W (BlkAt.grew hN6 hB) (LogOf.grew hL6 hB) (HZ1.out) hc)
      have HO := Lib.hid (fun W (hW : NodeAt g { n with lv := sl, commit := z } W) => outs_nil g { n with lv := sl, commit := z } ⟨by show 1 ≤ n.nodes; rw [hl.nodes]; omega, by show n.nodes ≤ 7; rw [hl.nodes]; omega, by show n.me < n.nodes; rw [hl.nodes, hl.me]; omega, hl.peers⟩ hov W hW)
      unfold ptrV at HT HS
      unfold ptrV nilS at HO
      have HH := Lib.hid (And.intro hG6 (And.intro hL6 hs5))
      clear hE4 hN4 hb5 hB5 hL5 hB4 hB45 hN6 hG6 hb5g hbw5 hL6 hE6 hsl hs5 n5 n5' n5a n5f x0 x1 x2 HR HX HCl
      go_wp2_with (first
        | (go_at_call 30; (with_reducible refine (HT.out _ _).mono ?_); rintro e w7 ⟨rfl, hb7⟩)
        | (go_at_call 32; (with_reducible refine (HS.out _ hb7).mono ?_); rintro e w8 ⟨rfl, hN8', hG8⟩; have hN8 : NodeAt g { n with lv := sl, commit := z } w8 := hN8'; clear hN8')
        | (go_at_call 33; (with_reducible refine (HO.out _ hN8).mono ?_); rintro e w9 ⟨rfl, hN9, hG9⟩))
      go_ret2
      have hG7 : w.grownBy w7 (some g) := HH.out.1.trans (grown_below hb7 (some g))
      have hsg : ∀ b, sl.ownBlock = some b → some b ≠ some g := fun b hb e => by have := HH.out.2.2 b hb; simp only [Option.some.injEq] at e; omega
      exact ⟨rfl, ⟨sl, hN9, LogOf.kept (LogOf.kept (LogOf.grew HH.out.2.1 hb7) hG8 hsg) hG9 hsg, HH.out.2.2⟩, (hG7.trans hG8).trans hG9⟩
  · have eb : ((lastN n L).1 == n.acc) = false := beq_eq_false_iff_ne.2 hcase
    have ez : z = (n.acc, 1) := by rw [HZ.out]; unfold nextZ; rw [if_neg hcase]
    clear hcase
    go_upto_region 11 with (fail)
    generalize w2 = w3 at *
    have hA3 : BlkAt w.heap.size 41 [.int .i64 z.1, .int .i64 z.2] w3 := by rw [ez]; exact HA2.out
    have hB3 := HB2.out
    have HA3 := Lib.hid hA3
    have HB3 := Lib.hid hB3
    clear l0 l1 a0 a1 af hA3 hB3 eb ez HA2 HB2
    have a0 : w3.cell? ⟨w.heap.size, 0, none⟩ = some (.int .i64 z.1) := HA3.out.cell rfl
    have a1 : w3.cell? ⟨w.heap.size, 1, none⟩ = some (.int .i64 z.2) := HA3.out.cell rfl
    have hE4 := BlkAt.alloc_new w3 (entCells ⟨z.1, z.2, t⟩) EntT
    have hB4 : Below w.heap.size w (w3.alloc (.cells (entCells ⟨z.1, z.2, t⟩).toArray EntT)) := HB3.out.alloc HB3.out.size _
    have HE4 := Lib.hid (And.intro hE4 hB4)
    clear hE4 hB4
    go_upto_region 12 with (fail)
    obtain ⟨hE4, hB4⟩ := HE4.out
    generalize hb3 : w3.heap.size = b3 at *
    obtain ⟨w4, hw4⟩ : ∃ w4, w4 = w3.alloc (.cells (entCells ⟨z.1, z.2, t⟩).toArray EntT) := ⟨_, rfl⟩
    rw [← hw4] at hE4 hB4
    have hw4' : w4 = w3.alloc (.cells #[.int .i64 z.1, .int .i64 z.2, .string (bs t)] EntT) := hw4
    rw [← hw4']
    have HB3g := Lib.hid (show some b3 ≠ some g by have := HB3.out.size; simp only [ne_eq, Option.some.injEq]; omega)
    clear hw4 hw4' HE4 HA3 HB3 a0 a1 hb3
    have x0 := hE4.cell (i := 0) (v := .int .i64 z.1) rfl
    have x1 := hE4.cell (i := 1) (v := .int .i64 z.2) rfl
    have x2 := hE4.cell (i := 2) (v := .string (bs t)) rfl
    have hN4 : NodeAt g n w4 := BlkAt.grew H.out.1 hB4
    have n5 : w4.cell? ⟨g, 5, none⟩ = some (.slice a L.length c) := by rw [← HV.out]; exact BlkAt.cell hN4 (by rfl)
    have hE := EntsAt.grew H.out.2 (first_drew hB4)
    have h0 : a = none → L.length = 0 := fun h => by
      rcases Nat.eq_zero_or_pos L.length with h' | h'
      · exact h'
      · obtain ⟨_, _, e, _⟩ := ents_get hE 0 h'; rw [h] at e; cases e
    have HCl := fun W => clip_any a L.length c hlc h0 W
    obtain ⟨b5, c5, w5, hrun, hL5, hb5, hB5⟩ := log_append a c L ⟨z.1, z.2, t⟩ w4.drew hE (by omega)
    have n5' : w5.cell? ⟨g, 5, none⟩ = some (.slice a L.length c) := Grew.cell hB5 (show w4.drew.cell? _ = _ from n5)
    have n5a : (w4.alloc (.cells #[.int .i64 z.1, .int .i64 z.2, .string (bs t)] EntT)).drew.cell? ⟨g, 5, none⟩ = some (.slice a L.length c) := Grew.cell (first_drew (alloc_below w4 _)) n5
    have n5f := (BlkAt.grew (show BlkAt g NodT (ndCells n) w4.drew from hN4) hB5).frozen
    have HX := Lib.hid (And.intro hE4 (And.intro hN4 (And.intro (And.intro hb5 hB5) (And.intro hL5 hB4))))
    have HR := Lib.hid hrun
    have HCl := Lib.hid HCl
    clear hE4 hB4 hN4 hE h0 hrun hL5 hb5 hB5
    go_region_law (first
      | (refine step_call_same (by rfl) 29 _ 27 (by rfl) _ _ (by rfl) (enters_of Tryz.func29 (by kernel_rfl) rfl _ _) (HCl.out _) ?_)
      | (refine step_append_eq (by rfl) _ _ EnsT (by rfl) _ _ _ _ (by rfl) (by rfl) HR.out ?_))
    all_goals
      obtain ⟨hE4, hN4, ⟨hb5, hB5⟩, hL5, hB4⟩ := HX.out
      have hB45 : Below w4.heap.size w4 w5 := (first_drew (Below.refl _ w4)).trans hB5
      have hN6 : NodeAt g { n with lv := .slice (some ⟨b5, 0, none⟩) (L.length + 1) c5 } (w5.setCell ⟨g, 5, none⟩ (.slice (some ⟨b5, 0, none⟩) (L.length + 1) c5)) := BlkAt.set (BlkAt.grew hN4 hB45) 5 (.slice (some ⟨b5, 0, none⟩) (L.length + 1) c5)
      have hG6 : w.grownBy (w5.setCell ⟨g, 5, none⟩ (.slice (some ⟨b5, 0, none⟩) (L.length + 1) c5)) (some g) := (grown_below (hB4.trans (hB45.mono hB4.size)) (some g)).trans (grown_set w5 g 5 _)
      have hb5g : b5 ≠ g := by have h1 := hB4.size; have h2 : w4.heap.size ≤ b5 := hb5; omega
      have hbw5 : w.heap.size ≤ b5 := Nat.le_trans hB4.size hb5
      have hL6 : LogOf (.slice (some ⟨b5, 0, none⟩) (L.length + 1) c5) (L ++ [⟨z.1, z.2, t⟩]) (w5.setCell ⟨g, 5, none⟩ (.slice (some ⟨b5, 0, none⟩) (L.length + 1) c5)) := LogOf.kept hL5 (grown_set w5 g 5 _) (fun b hb => by simp only [Value.ownBlock, Option.some.injEq] at hb; subst hb; simpa using hb5g)
      have hE6 : BlkAt b3 EntT (entCells ⟨z.1, z.2, t⟩) (w5.setCell ⟨g, 5, none⟩ (.slice (some ⟨b5, 0, none⟩) (L.length + 1) c5)) := BlkAt.grown (BlkAt.grew hE4 hB45) (grown_set w5 g 5 _) (HB3g.out)
      generalize w5.setCell ⟨g, 5, none⟩ (.slice (some ⟨b5, 0, none⟩) (L.length + 1) c5) = w6 at *
      generalize hsl : Value.slice (some ⟨b5, 0, none⟩) (L.length + 1) c5 = sl at *
      have hs5 : ∀ b, sl.ownBlock = some b → w.heap.size ≤ b := fun b hb => by rw [← hsl] at hb; simp only [Value.ownBlock, Option.some.injEq] at hb; omega
      have y0 := hE6.cell (i := 0) (v := .int .i64 z.1) rfl
      have y1 := hE6.cell (i := 1) (v := .int .i64 z.2) rfl
      have y2 := hE6.cell (i := 2) (v := .string (bs t)) rfl
      have hl6 : ({ n with lv := sl } : Nd).lone := ⟨hl.nodes, hl.me, hl.peers⟩
      have HT := Lib.hid (fun (f x : Value) => those_one g { n with lv := sl } hl6 f x w6 hN6)
      have HS := Lib.hid (fun W (hB : Below w6.heap.size w6 W) => settle_one g { n with lv := sl } hl6 L ⟨z.1, z.2, t⟩ W (BlkAt.grew hN6 hB) (LogOf.grew hL6 hB) (HZ1.out) hc)
      have HO := Lib.hid (fun W (hW : NodeAt g { n with lv := sl, commit := z } W) => outs_nil g { n with lv := sl, commit := z } ⟨by show 1 ≤ n.nodes; rw [hl.nodes]; omega, by show n.nodes ≤ 7; rw [hl.nodes]; omega, by show n.me < n.nodes; rw [hl.nodes, hl.me]; omega, hl.peers⟩ hov W hW)
      unfold ptrV at HT HS
      unfold ptrV nilS at HO
      have HH := Lib.hid (And.intro hG6 (And.intro hL6 hs5))
      clear hE4 hN4 hb5 hB5 hL5 hB4 hB45 hN6 hG6 hb5g hbw5 hL6 hE6 hsl hs5 n5 n5' n5a n5f x0 x1 x2 HR HX HCl
      go_wp2_with (first
        | (go_at_call 30; (with_reducible refine (HT.out _ _).mono ?_); rintro e w7 ⟨rfl, hb7⟩)
        | (go_at_call 32; (with_reducible refine (HS.out _ hb7).mono ?_); rintro e w8 ⟨rfl, hN8', hG8⟩; have hN8 : NodeAt g { n with lv := sl, commit := z } w8 := hN8'; clear hN8')
        | (go_at_call 33; (with_reducible refine (HO.out _ hN8).mono ?_); rintro e w9 ⟨rfl, hN9, hG9⟩))
      go_ret2
      have hG7 : w.grownBy w7 (some g) := HH.out.1.trans (grown_below hb7 (some g))
      have hsg : ∀ b, sl.ownBlock = some b → some b ≠ some g := fun b hb e => by have := HH.out.2.2 b hb; simp only [Option.some.injEq] at e; omega
      exact ⟨rfl, ⟨sl, hN9, LogOf.kept (LogOf.kept (LogOf.grew HH.out.2.1 hb7) hG8 hsg) hG9 hsg, HH.out.2.2⟩, (hG7.trans hG8).trans hG9⟩
end Go.Proofs.YtkidhbflojlmoaaGreat
