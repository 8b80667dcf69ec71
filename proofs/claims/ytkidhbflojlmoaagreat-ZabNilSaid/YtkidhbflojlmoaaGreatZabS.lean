/- The walk of Compact. Conditions: as each theorem says. -/
import Derived.Test.YtkidhbflojlmoaaGreatZabR
import Derived.Test.YtkidhbflojlmoaaGreatLast
namespace Go.Proofs.YtkidhbflojlmoaaGreat
open Go.RowKit

theorem far_cell {w : World} {b i b' i' : Nat} {v x : Value} (h : b ≠ b' ∨ i ≠ i') (hc : w.cell? ⟨b', i', none⟩ = some x) : (w.setCell ⟨b, i, none⟩ v).cell? ⟨b', i', none⟩ = some x := by
  rw [World.cell?_setCell_other w _ _ v (by intro e; simp only [Addr.mk.injEq, and_true] at e; rcases h with h | h; exact h e.1; exact h e.2)]
  exact hc
set_option maxRecDepth 100000 in
set_option maxHeartbeats 4000000 in
theorem compact_any (g : Nat) (n : Nd) (hf : n.fit) (L : List Ent) (z : Int × Int) (t : List UInt8) (hfd : findB L z = true) (hlz : lessZ n.commit z = false)
    (w : World) (h : NodeAt g n w) (hL : LogAt n L w) :
    Calls Tryz.prog 19 #[ptrV g, zxidV z, .string (bs t)] w fun e w' => e = .returned (.int .i64 0) ∧
      (∃ v, NodeAt g { n with beg := z, img := t, lv := v } w' ∧ LogOf v (L.drop (findN L z)) w' ∧ ∀ b, v.ownBlock = some b → w.heap.size ≤ b) ∧ w.grownBy w' (some g) := by
  obtain ⟨a, c, hv, hE, hln, hlc⟩ := hL
  rw [hv] at hE
  have hfl := findN_le L z
  have hlt : g < w.heap.size := BlkAt.lt h
  have hB1 := alloc_below w (.cells #[.int .i64 z.1, .int .i64 z.2] 41)
  have hZ := BlkAt.alloc_new w [.int .i64 z.1, .int .i64 z.2] 41
  have hN1 : NodeAt g n _ := BlkAt.grew h hB1
  have hE1 := EntsAt.grew hE hB1
  have c5 : (w.alloc (.cells #[.int .i64 z.1, .int .i64 z.2] 41)).cell? ⟨g, 5, none⟩ = some (.slice a L.length c) := by rw [← hv]; exact BlkAt.cell hN1 (by rfl)
  have c12 : (w.alloc (.cells #[.int .i64 z.1, .int .i64 z.2] 41)).cell? ⟨g, 12, none⟩ = some (.int .i64 n.commit.1) := BlkAt.cell hN1 (by rfl)
  have c13 : (w.alloc (.cells #[.int .i64 z.1, .int .i64 z.2] 41)).cell? ⟨g, 13, none⟩ = some (.int .i64 n.commit.2) := BlkAt.cell hN1 (by rfl)
  have z0 := hZ.cell (i := 0) (v := .int .i64 z.1) rfl
  have z1 := hZ.cell (i := 1) (v := .int .i64 z.2) rfl
  obtain ⟨w1, hw1⟩ : ∃ w1, w1 = w.alloc (.cells #[.int .i64 z.1, .int .i64 z.2] 41) := ⟨_, rfl⟩
  have HF := fun W (hB : Grew w1 W) => find_any L a c z W (EntsAt.grew (by rw [hw1]; exact hE1) hB) (by omega)
  have HLs := fun W => less_any n.commit z W
  unfold zxidV at HF HLs ⊢
  rw [hfd] at HF
  rw [hlz] at HLs
  have HF := Lib.hid HF
  have HLs := Lib.hid HLs
  unfold ptrV
  rw [← hw1] at hB1 hZ hN1 hE1 c5 c12 c13 z0 z1
  have HH := Lib.hid (And.intro hB1 (And.intro hZ (And.intro hN1 (And.intro hE1 hv))))
  generalize findN L z = k at *
  clear h hE hv hB1 hZ hN1 hE1 hfd hlz
  go_enter Tryz.func19, Tryz.ntmps19
  go_wp2_with (fail)
  rw [← hw1]
  clear hw1
  generalize hb1 : w.heap.size = b1 at *
  have hex := Grew.all w1
  refine wp_region_grew (by kernel_rfl) (by kernel_rfl) ?_
  repeat (first | go_big_quiet_skip | (go_big_quiet_want; first | (refine quiet_load_cell _ _ rfl ⟨g, 5, none⟩ rfl _ _ Tryz.underlying27 rfl (fun W hW => Grew.cell hW c5) ?_; simp only [Act.put, List.setIfInBounds_toArray, List.set_cons_succ, List.set_cons_zero]; go_big_quiet_on) | (refine quiet_load_mid 41 _ rfl b1 0 rfl [.int .i64 z.1, .int .i64 z.2] _ (fun W hW => range2 (Grew.cell hW z0) (Grew.cell hW z1)) Tryz.underlying41 rfl (by kernel_rfl) ?_; simp only [Act.put, List.setIfInBounds_toArray, List.set_cons_succ, List.set_cons_zero]; go_big_quiet_on) | (go_big_quiet_op; first | go_big_quiet_on | (apply Exists.intro; refine ⟨fun W hW => ?_, ?_⟩; (first | (go_at_call 45; with_reducible exact Calls.grew hW (HF.out _ hW))); go_big_quiet_on))))
  refine wpQuiet_nil ?_
  intro w2 hw2
  clear hex
  have c12 := Grew.cell hw2 c12
  have c13 := Grew.cell hw2 c13
  have z0 := Grew.cell hw2 z0
  have z1 := Grew.cell hw2 z1
  have c5 := Grew.cell hw2 c5
  go_wp2_with (fail)
  have hex := Grew.all w2
  refine wp_region_grew (by kernel_rfl) (by kernel_rfl) ?_
  repeat (first | go_big_quiet_skip | (go_big_quiet_want; first | (refine quiet_load_mid 41 _ rfl b1 0 rfl [.int .i64 z.1, .int .i64 z.2] _ (fun W hW => range2 (Grew.cell hW z0) (Grew.cell hW z1)) Tryz.underlying41 rfl (by kernel_rfl) ?_; simp only [Act.put, List.setIfInBounds_toArray, List.set_cons_succ, List.set_cons_zero]; go_big_quiet_on) | (refine quiet_load_mid 41 _ rfl g 12 rfl [.int .i64 n.commit.1, .int .i64 n.commit.2] _ (fun W hW => range2 (Grew.cell hW c12) (Grew.cell hW c13)) Tryz.underlying41 rfl (by kernel_rfl) ?_; simp only [Act.put, List.setIfInBounds_toArray, List.set_cons_succ, List.set_cons_zero]; go_big_quiet_on) | (go_big_quiet_op; first | go_big_quiet_on | (apply Exists.intro; refine ⟨fun W hW => ?_, ?_⟩; (first | (go_at_call 26; with_reducible exact Calls.grew hW (HLs.out _))); go_big_quiet_on))))
  refine wpQuiet_nil ?_
  intro w3 hw3
  clear hex
  have z0 := Grew.cell hw3 z0
  have z1 := Grew.cell hw3 z1
  have c5 := Grew.cell hw3 c5
  go_wp2_with (fail)
  have hb3 : Below w1.heap.size w1 w3 := (show Below w1.heap.size w1 w2 from hw2).trans ((show Below w2.heap.size w2 w3 from hw3).mono (Below.size hw2))
  have hsl : ∀ w, (Instr.sliceAt 27 (.slice a L.length c) (some (.int .i64 (k : Int))) none none).run Tryz.prog w = .ok (.slice (slA a k c) (L.length - k) (c - k)) w := by
    intro w
    have h1 : (sizeOf (Tryz.prog.elem 27)).run Tryz.prog w = .ok 3 w := by kernel_rfl
    rw [run_sliceAt_slice w _ _ _ _ _ (by kernel_rfl), run_slice_l w 27 a L.length c (by kernel_rfl) .i64 k (by omega) (by omega), h1]
    simp [sliced, slA]
  have hN3 : NodeAt g n w3 := BlkAt.grew HH.out.2.2.1 hb3
  have hE3 := ents_drop (EntsAt.grew HH.out.2.2.2.1 hb3) k (c - k) hfl hlc
  have HC := fun W (hB : Below w3.heap.size w3 W) => clone_opt L (slA a k c) k (c - k) W (EntsAt.grew hE3 hB) hln
  have HC := Lib.hid HC
  have HH3 := Lib.hid (And.intro hb3 hN3)
  have HD := Lib.hid (first_drew (Below.refl w3.heap.size w3))
  clear hb3 hN3 hE3 hw2 hw3 c12 c13 HF HLs
  refine wp_region_last [true, true, true, true, true, true, true, true, true, true, true, true, false, false, false, false, false, false, false, false, false, false, false, false, false] (fun W => W.cell? ⟨g, 5, none⟩ = some (.slice a L.length c) ∧ W.cell? ⟨b1, 0, none⟩ = some (.int .i64 z.1) ∧ W.cell? ⟨b1, 1, none⟩ = some (.int .i64 z.2)) (by kernel_rfl) (by kernel_rfl) (fun _ _ d _ _ h => by cases d <;> exact h) ⟨c5, z0, z1⟩ ?_
  simp only [List.map, Bool.not_true, Bool.not_false, pickM_yes, pickM_no, pickM_nil]
  repeat ((refine wpHeld_step ?_ rfl (fun W hW => ?_) ?_; rotate_left; focus ((try dsimp only at hW); go_simp; try with_reducible rfl)); simp only [Act.put, List.setIfInBounds_toArray, List.set_cons_zero, List.set_cons_succ])
  refine wpHeld_nil ?_
  refine wpHeavy_step (fun K hK => ?_)
  go_simp
  refine (HC.out _ HD.out).mono ?_
  rintro e w4 ⟨v, rfl, ho, hb4'⟩
  have hb4 : Below w3.heap.size w3 w4 := HD.out.trans hb4'
  obtain ⟨-, a4, c4, rfl, hc4, -, hE4⟩ := own_form ho
  have hbase := own_base ho
  have hN4 : NodeAt g n w4 := BlkAt.grew HH3.out.2 hb4
  have d2 : w4.cell? ⟨g, 2, none⟩ = some (.int .i64 n.beg.1) := BlkAt.cell hN4 (by rfl)
  have d3 : w4.cell? ⟨g, 3, none⟩ = some (.int .i64 n.beg.2) := BlkAt.cell hN4 (by rfl)
  have d4 : w4.cell? ⟨g, 4, none⟩ = some (.string (bs n.img)) := BlkAt.cell hN4 (by rfl)
  have d5 := Grew.cell hb4 c5
  have z0 := Grew.cell hb4 z0
  have z1 := Grew.cell hb4 z1
  have df := hN4.frozen
  have HS4 := Lib.hid (And.intro d5 (And.intro z0 z1))
  have HH4 := Lib.hid (And.intro hb4 (And.intro hN4 (And.intro hE4 (And.intro hc4 hbase))))
  clear hb4' ho hb4 hN4 hE4 hc4 hbase hsl
  refine hK.out _ _ (fun _ => HS4.out) ?_
  clear hK K
  (try simp only [Act.put, List.setIfInBounds_toArray, List.set_cons_zero, List.set_cons_succ])
  refine wpHeavy_step (fun K hK => ?_)
  go_simp
  refine hK.out _ _ (fun _ => HS4.out) ?_
  clear hK K
  (try simp only [Act.put, List.setIfInBounds_toArray, List.set_cons_zero, List.set_cons_succ])
  refine wpHeavy_step (fun K hK => ?_)
  go_simp
  refine hK.out _ _ (fun _ => HS4.out) ?_
  clear hK K
  (try simp only [Act.put, List.setIfInBounds_toArray, List.set_cons_zero, List.set_cons_succ])
  refine wpHeavy_step (fun K hK => ?_)
  go_simp
  refine hK.out _ _ (fun _ => HS4.out) ?_
  clear hK K
  (try simp only [Act.put, List.setIfInBounds_toArray, List.set_cons_zero, List.set_cons_succ])
  have hne : b1 ≠ g := by omega
  have HN5 : Hid (NodeAt g { n with beg := z } ((w4.setCell ⟨g, 2, none⟩ (.int .i64 z.1)).setCell ⟨g, 3, none⟩ (.int .i64 z.2))) := Lib.hid (BlkAt.set (BlkAt.set HH4.out.2.1 2 (.int .i64 z.1)) 3 (.int .i64 z.2))
  have HG5 : Hid (w4.grownBy ((w4.setCell ⟨g, 2, none⟩ (.int .i64 z.1)).setCell ⟨g, 3, none⟩ (.int .i64 z.2)) (some g)) := Lib.hid ((grown_set w4 g 2 _).trans (grown_set _ g 3 _))
  have HS5 : Hid (((w4.setCell ⟨g, 2, none⟩ (.int .i64 z.1)).setCell ⟨g, 3, none⟩ (.int .i64 z.2)).cell? ⟨g, 5, none⟩ = some (.slice a L.length c) ∧ ((w4.setCell ⟨g, 2, none⟩ (.int .i64 z.1)).setCell ⟨g, 3, none⟩ (.int .i64 z.2)).cell? ⟨b1, 0, none⟩ = some (.int .i64 z.1) ∧ ((w4.setCell ⟨g, 2, none⟩ (.int .i64 z.1)).setCell ⟨g, 3, none⟩ (.int .i64 z.2)).cell? ⟨b1, 1, none⟩ = some (.int .i64 z.2)) :=
    Lib.hid ⟨far_cell (.inr (by decide)) (far_cell (.inr (by decide)) HS4.out.1), far_cell (.inl hne.symm) (far_cell (.inl hne.symm) HS4.out.2.1), far_cell (.inl hne.symm) (far_cell (.inl hne.symm) HS4.out.2.2)⟩
  refine wpHeavy_step (fun K hK => ?_)
  go_simp
  refine hK.out _ _ (fun _ => HS5.out) ?_
  clear hK K
  (try simp only [Act.put, List.setIfInBounds_toArray, List.set_cons_zero, List.set_cons_succ])
  generalize (w4.setCell ⟨g, 2, none⟩ (.int .i64 z.1)).setCell ⟨g, 3, none⟩ (.int .i64 z.2) = w5 at *
  clear d2 d3 d4 d5 z0 z1 df
  have d4 : w5.cell? ⟨g, 4, none⟩ = some (.string (bs n.img)) := HN5.out.cell (by rfl)
  have d5 := HS5.out.1
  have df := HN5.out.frozen
  refine wpHeavy_step (fun K hK => ?_)
  go_simp
  refine hK.out _ _ (fun _ => HS5.out) ?_
  clear hK K
  (try simp only [Act.put, List.setIfInBounds_toArray, List.set_cons_zero, List.set_cons_succ])
  refine wpHeavy_step (fun K hK => ?_)
  go_simp
  refine hK.out _ _ (fun _ => HS5.out) ?_
  clear hK K
  (try simp only [Act.put, List.setIfInBounds_toArray, List.set_cons_zero, List.set_cons_succ])
  refine wpHeavy_step (fun K hK => ?_)
  go_simp
  refine hK.out _ _ (fun _ => HS5.out) ?_
  clear hK K
  (try simp only [Act.put, List.setIfInBounds_toArray, List.set_cons_zero, List.set_cons_succ])
  have HN6 : Hid (NodeAt g { n with beg := z, img := t } (w5.setCell ⟨g, 4, none⟩ (.string (bs t)))) := Lib.hid (BlkAt.set HN5.out 4 (.string (bs t)))
  have HG6 : Hid (w5.grownBy (w5.setCell ⟨g, 4, none⟩ (.string (bs t))) (some g)) := Lib.hid (grown_set w5 g 4 _)
  have HS6 : Hid ((w5.setCell ⟨g, 4, none⟩ (.string (bs t))).cell? ⟨g, 5, none⟩ = some (.slice a L.length c) ∧ (w5.setCell ⟨g, 4, none⟩ (.string (bs t))).cell? ⟨b1, 0, none⟩ = some (.int .i64 z.1) ∧ (w5.setCell ⟨g, 4, none⟩ (.string (bs t))).cell? ⟨b1, 1, none⟩ = some (.int .i64 z.2)) :=
    Lib.hid ⟨far_cell (.inr (by decide)) HS5.out.1, far_cell (.inl hne.symm) HS5.out.2.1, far_cell (.inl hne.symm) HS5.out.2.2⟩
  refine wpHeavy_step (fun K hK => ?_)
  go_simp
  refine hK.out _ _ (fun _ => HS6.out) ?_
  clear hK K
  (try simp only [Act.put, List.setIfInBounds_toArray, List.set_cons_zero, List.set_cons_succ])
  generalize w5.setCell ⟨g, 4, none⟩ (.string (bs t)) = w6 at *
  clear d4 d5 df
  have d5 := HS6.out.1
  have df := HN6.out.frozen
  refine wpHeavy_step (fun K hK => ?_)
  go_simp
  refine hK.out _ _ (fun _ => HS6.out) ?_
  clear hK K
  (try simp only [Act.put, List.setIfInBounds_toArray, List.set_cons_zero, List.set_cons_succ])
  refine wpHeavy_step (fun K hK => ?_)
  go_simp
  refine hK.out _ _ (fun _ => HS6.out) ?_
  clear hK K
  (try simp only [Act.put, List.setIfInBounds_toArray, List.set_cons_zero, List.set_cons_succ])
  refine wpHeavy_step (fun K hK => ?_)
  go_simp
  refine hK.out _ _ (fun _ => HS6.out) ?_
  clear hK K
  (try simp only [Act.put, List.setIfInBounds_toArray, List.set_cons_zero, List.set_cons_succ])
  refine wpHeavy_step (fun K hK => ?_)
  go_simp
  refine hK.out _ _ (fun h' => absurd rfl h') ?_
  clear hK K
  (try simp only [Act.put, List.setIfInBounds_toArray, List.set_cons_zero, List.set_cons_succ])
  refine wpHeavy_nil ?_
  have hN7 : NodeAt g { n with beg := z, img := t, lv := .slice a4 (L.length - k) c4 } (w6.setCell ⟨g, 5, none⟩ (.slice a4 (L.length - k) c4)) := BlkAt.set HN6.out 5 (.slice a4 (L.length - k) c4)
  have hG7 := (HG5.out.trans HG6.out).trans (grown_set w6 g 5 (.slice a4 (L.length - k) c4))
  have HW1 : Below w.heap.size w w1 := by rw [hb1]; exact HH.out.1
  have hlw : w.heap.size ≤ w3.heap.size := Nat.le_trans HW1.size HH3.out.1.size
  have hbase : ∀ b, (Value.slice a4 (L.length - k) c4).ownBlock = some b → w.heap.size ≤ b := fun b hb => Nat.le_trans hlw (HH4.out.2.2.2.2 b hb)
  have hE7 := EntsAt.kept HH4.out.2.2.1 hG7 (fun b hb e => by have := hbase b hb; simp only [Option.some.injEq] at e; omega)
  have hgw : w.grownBy (w6.setCell ⟨g, 5, none⟩ (.slice a4 (L.length - k) c4)) (some g) := ((grown_below ((HW1.trans (HH3.out.1.mono HW1.size)).trans (HH4.out.1.mono hlw)) (some g)).trans hG7)
  generalize w6.setCell ⟨g, 5, none⟩ (.slice a4 (L.length - k) c4) = w7 at *
  go_wp2
  go_ret
  exact ⟨rfl, ⟨_, hN7, ⟨a4, c4, by rw [List.length_drop], hE7, by rw [List.length_drop]; omega, by rw [List.length_drop]; exact HH4.out.2.2.2.1⟩, hbase⟩, hgw⟩
end Go.Proofs.YtkidhbflojlmoaaGreat
