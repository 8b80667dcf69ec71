/- The walk of Plain at a Sync. Conditions: as each theorem says. -/
import Derived.Test.YtlbacddgjagcbaaValY
namespace Go.Proofs.Ytlbacddgjagcbaa
open Go.RowKit

set_option maxRecDepth 100000 in
set_option maxHeartbeats 16000000 in
theorem plain_sync (k p : Int) (f z : Int × Int) (b : List UInt8) (L : List Ent) (a : Option Addr) (cap : Nat) (hl : L.length ≤ 1100) (w : World) (hE : EntsIn w a cap L) : Calls Try.prog 39 #[.iface 99 (syncV k p f z b (.slice a L.length cap))] w fun e w' => PlainSaid (plM (.sync k p f z b L)) w e w' := by
  obtain ⟨i5, hi, hz0, hz1, hz2⟩ := info_parts infoREnt
  have hlc := hE.1
  obtain ⟨f1, f2⟩ := f
  obtain ⟨z1, z2⟩ := z
  have HPf := Lib.hid (fun X => plain_at f1 f2 X)
  have HPz := Lib.hid (fun X => plain_at z1 z2 X)
  have HPe := Lib.hid (fun a b X => plain_at a b X)
  unfold syncV
  simp only
  have n_vote := no_vote 99 (by decide) (.agg #[.int .i64 k, .int .i64 p, .int .i64 f1, .int .i64 f2, .int .i64 z1, .int .i64 z2, .string (bs b), .slice a L.length cap])
  have n_info := no_info 99 (by decide) (.agg #[.int .i64 k, .int .i64 p, .int .i64 f1, .int .i64 f2, .int .i64 z1, .int .i64 z2, .string (bs b), .slice a L.length cap])
  have y1 := yes_sync (.agg #[.int .i64 k, .int .i64 p, .int .i64 f1, .int .i64 f2, .int .i64 z1, .int .i64 z2, .string (bs b), .slice a L.length cap])
  obtain ⟨W0, hW0⟩ : ∃ X, X = w.alloc (.cells #[.int .i64 0, .int .i64 0, .int .i64 0, .int .i64 0, .int .i64 0, .int .i64 0, .int .i64 0, .int .i64 0, .int .i64 0, .int .i64 0, .int .i64 0, .string ⟨#[]⟩, .slice none 0 0, .bool false, .int .i64 0, .int .i64 0, .int .i64 0] 51) := ⟨_, rfl⟩
  have hZ : BlkAt w.heap.size MsgT (msgCells zeroM none 0) W0 := by rw [hW0]; exact zero_blk w
  have hB0 : Below w.heap.size w W0 := by rw [hW0]; exact alloc_below w _
  have hz0' : W0.heap.size = w.heap.size + 1 := by rw [hW0]; simp
  obtain ⟨W, hW⟩ : ∃ X, X = W0.alloc (.cells #[.int .i64 k, .int .i64 p, .int .i64 f1, .int .i64 f2, .int .i64 z1, .int .i64 z2, .string (bs b), .slice a L.length cap] 99) := ⟨_, rfl⟩
  have hk : W.heap[w.heap.size + 1]? = some (.cells #[.int .i64 k, .int .i64 p, .int .i64 f1, .int .i64 f2, .int .i64 z1, .int .i64 z2, .string (bs b), .slice a L.length cap] 99 (0, 0)) := by rw [hW, ← hz0']; exact heap_alloc_new W0 _
  have hB1 : Below W0.heap.size W0 W := by rw [hW]; exact alloc_below W0 _
  have hZ := hZ.grew hB1
  have hBW := hB0.trans (hB1.mono hB0.size)
  have HK := Lib.hid (fun X (hX : Below W.heap.size W X) => Grew.at_ hX hk)
  have HE := Lib.hid (fun X (hX : Below W.heap.size W X) => (hE.grew hBW).grew hX)
  have HBW := Lib.hid hBW
  have hlt : w.heap.size + 1 < W.heap.size := (Array.getElem?_eq_some_iff.1 hk).1
  have HW0 := Lib.hid hW0
  have HW := Lib.hid hW
  clear hW0 hW hB0 hB1 hz0' hk hE hBW
  go_enter Try.func39, Try.ntmps39
  go_upto_region 10 with (fail)
  rw [← HW0.out, ← HW.out]
  clear HW0 HW
  have hne : w.heap.size + 1 ≠ w.heap.size := by omega
  generalize hh : w.heap.size + 1 = h at *
  generalize hg : w.heap.size = g at *
  have HG := Lib.hid hg
  have hgh : g < h := by omega
  clear hh hg
  have hb0 := Below.refl W.heap.size W
  have m5 : W.cell? ⟨h, 5, none⟩ = some (.int .i64 z2) := by rw [Lib.cell_of_heap (HK.out _ hb0)]; rfl
  go_wp2
  go_loopw [6, 7] (fun v vi wr => ∃ (i : Nat), vi = .int .i64 (i : Int) ∧ i ≤ L.length ∧ wr.ownsRow W.heap.size 72 3 v i (entRow (L.take i)) ∧ Below W.heap.size W wr) (fun _ vi _ => L.length - (intOf vi).toNat)
  case atStart => exact ⟨0, rfl, by omega, World.ownsRow_nil _ _ _ _, Below.refl _ _⟩
  case round =>
    clear m5
    obtain ⟨i, rfl, hi1, hown, hb⟩ := hrel
    have m7 : wr.cell? ⟨h, 7, none⟩ = some (.slice a L.length cap) := by rw [Lib.cell_of_heap (HK.out _ hb)]; rfl
    by_cases hp : i < L.length
    · as_aux_lemma =>
      have hob := own_base hown
      obtain ⟨bb, off, rfl, e0, e1, e2⟩ := ents_get (HE.out _ (Below.refl _ _)).2.2.1 i hp
      have hbb := block_lt_of_cell e0
      have hne9 : some bb ≠ u6.ownBlock := fun h => by have := hob bb h.symm; simp only at hbb; omega
      have hneh : some h ≠ u6.ownBlock := fun e => by have := hob h e.symm; omega
      have e0 := Grew.cell hb e0
      have e1 := Grew.cell hb e1
      have e2 := Grew.cell hb e2
      have htk := Lib.hid (take_ent L i hp)
      generalize L[i] = x at *
      have HZ := Lib.hid (fun X => HPe.out x.e x.c X)
      have hsz := hb.size
      clear HK HE HBW HPf HPz HPe hZ
      go_wp2_with (fail)
      go_region_held3 (fun w' => w'.cell? ⟨h, 7, none⟩ = some (.slice (some ⟨bb, off, none⟩) L.length cap) ∧ w'.cell? ⟨bb, off + i * 3, none⟩ = some (.int .i64 x.e) ∧ w'.cell? ⟨bb, off + i * 3 + 1, none⟩ = some (.int .i64 x.c) ∧ w'.cell? ⟨bb, off + i * 3 + 2, none⟩ = some (.string (bs x.b))) (first | exact ⟨Grew.cell hb2 m7, Grew.cell hb2 e0, Grew.cell hb2 e1, Grew.cell hb2 e2⟩ | go_keep | exact ⟨hgr3.cell (Grew.cell ((Below.refl _ w2).alloc (Nat.le_refl _) _) (Grew.cell hb2 m7)) hneh, hgr3.cell (Grew.cell ((Below.refl _ w2).alloc (Nat.le_refl _) _) (Grew.cell hb2 e0)) hne9, hgr3.cell (Grew.cell ((Below.refl _ w2).alloc (Nat.le_refl _) _) (Grew.cell hb2 e1)) hne9, hgr3.cell (Grew.cell ((Below.refl _ w2).alloc (Nat.le_refl _) _) (Grew.cell hb2 e2)) hne9⟩) (first | (go_simp; go_at_call 43; (with_reducible refine (HZ.out _).mono ?_); rintro e w2 ⟨rfl, hb2⟩; have hown2 := own_below hown.drew hb2; have hs2 : wr.heap.size ≤ w2.heap.size := hb2.size) | (refine step_append_own rfl _ _ 49 (by rfl) W.heap.size 72 i5 (.agg #[.int .i64 0, .int .i64 0, .string ⟨#[]⟩]) 3 32 Try.underlying49 hi hz0 hz1 hz2 rfl (by decide) _ _ _ (by rfl) (hown2.alloc _) ⟨w2.heap.size, 0, none⟩ 1 1 (entRow [x]) (by rfl) rfl (new_cells w2 _ 72) (entRow_one _) (by unfold maxLen; omega) (by omega) (by simp; omega) ?_; intro v3 w3 hown3 hgr3 _))
      all_goals
        have hB2 := hb.drew.trans (hb2.mono hsz)
        have hB3 := (hB2.alloc (by omega) (.cells (entRow [x]).toArray 72)).grown hgr3 (by simp; omega) hob
        rw [← htk.out] at hown3
        clear hown2 hgr3 hB2 hown e0 e1 e2
        go_wp2
        go_roundw
        case rel => exact ⟨i + 1, by go_num, by omega, hown3, hB3⟩
        case measure => simp [intOf]; omega
    · have hie : i = L.length := by omega
      subst hie
      rw [List.take_length] at hown
      obtain ⟨_, a2, cap2, rfl, hE2⟩ := own_ents hown (HE.out _ hb).2.2.2
      have hob := own_base hown
      clear m7
      have m0 : wr.cell? ⟨h, 0, none⟩ = some (.int .i64 k) := by rw [Lib.cell_of_heap (HK.out _ hb)]; rfl
      have m1 : wr.cell? ⟨h, 1, none⟩ = some (.int .i64 p) := by rw [Lib.cell_of_heap (HK.out _ hb)]; rfl
      have m2 : wr.cell? ⟨h, 2, none⟩ = some (.int .i64 f1) := by rw [Lib.cell_of_heap (HK.out _ hb)]; rfl
      have m3 : wr.cell? ⟨h, 3, none⟩ = some (.int .i64 f2) := by rw [Lib.cell_of_heap (HK.out _ hb)]; rfl
      have m4 : wr.cell? ⟨h, 4, none⟩ = some (.int .i64 z1) := by rw [Lib.cell_of_heap (HK.out _ hb)]; rfl
      have m5 : wr.cell? ⟨h, 5, none⟩ = some (.int .i64 z2) := by rw [Lib.cell_of_heap (HK.out _ hb)]; rfl
      have m6 : wr.cell? ⟨h, 6, none⟩ = some (.string (bs b)) := by rw [Lib.cell_of_heap (HK.out _ hb)]; rfl
      have m7 : wr.cell? ⟨h, 7, none⟩ = some (.slice a L.length cap) := by rw [Lib.cell_of_heap (HK.out _ hb)]; rfl
      go_upto_region 15 with (fail)
      have hex := Grew.all wr
      refine wp_region_grew_tail 14 (by kernel_rfl) (by kernel_rfl) ?_
      simp only [List.take_succ_cons, List.take_zero, List.drop_succ_cons, List.drop_zero]
      repeat (first | go_big_quiet_skip | (go_big_quiet_want; first | (refine quiet_load_mid 59 _ rfl _ _ rfl [.int .i64 f1, .int .i64 f2] _ (fun W hW => range2 (Grew.cell hW m2) (Grew.cell hW m3)) Try.underlying59 rfl (by kernel_rfl) ?_; simp only [Act.put, List.setIfInBounds_toArray, List.set_cons_succ, List.set_cons_zero]; go_big_quiet_on) | (refine quiet_load_mid 59 _ rfl _ _ rfl [.int .i64 z1, .int .i64 z2] _ (fun W hW => range2 (Grew.cell hW m4) (Grew.cell hW m5)) Try.underlying59 rfl (by kernel_rfl) ?_; simp only [Act.put, List.setIfInBounds_toArray, List.set_cons_succ, List.set_cons_zero]; go_big_quiet_on) | (refine quiet_load_cell _ _ rfl ⟨h, 0, none⟩ rfl _ _ Try.underlying3 rfl (fun W hW => Grew.cell hW m0) ?_; simp only [Act.put, List.setIfInBounds_toArray, List.set_cons_succ, List.set_cons_zero]; go_big_quiet_on) | (refine quiet_load_cell _ _ rfl ⟨h, 1, none⟩ rfl _ _ Try.underlying3 rfl (fun W hW => Grew.cell hW m1) ?_; simp only [Act.put, List.setIfInBounds_toArray, List.set_cons_succ, List.set_cons_zero]; go_big_quiet_on) | (refine quiet_load_cell _ _ rfl ⟨h, 6, none⟩ rfl _ _ Try.underlying9 rfl (fun W hW => Grew.cell hW m6) ?_; simp only [Act.put, List.setIfInBounds_toArray, List.set_cons_succ, List.set_cons_zero]; go_big_quiet_on) | (go_big_quiet_op; first | go_big_quiet_on | (apply Exists.intro; refine ⟨fun W hW => ?_, ?_⟩; (first | exact rfl | (go_at_call 43; with_reducible exact Calls.grew hW (HPf.out _)) | (go_at_call 43; with_reducible exact Calls.grew hW (HPz.out _))); go_big_quiet_on))))
      refine wpQuiet_nil ?_
      intro w3 hw3
      clear hex
      have hb3 : Below wr.heap.size wr w3 := hw3
      have hBW3 := hb.trans (hb3.mono hb.size)
      go_wp2_with (refine wpList_store_blk (by rfl) 51 _ _ (by rfl) g MsgT (msgCells zeroM none 0) (msgCells (plM (.sync k p (f1, f2) (z1, z2) b L)) a2 cap2) (by rfl) (by rfl) (BlkAt.grew hZ hBW3) rfl infoMsg (msgCells_one _ _ _) ?_)
      intro w9 hS9 hgr9
      have hBW0 : Below w.heap.size w W := by rw [HG.out]; exact HBW.out
      have hB9 : Below w.heap.size w w9 := (hBW0.trans (hBW3.mono hBW0.size)).grown hgr9 (Nat.le_trans hBW0.size hBW3.size) (fun k hk => Nat.le_of_eq (HG.out.trans (Option.some.inj hk)))
      have hE9 : EntsIn w9 a2 cap2 L := by
        have hE3 := hE2.grew hb3
        match a2, hE3, hob with
        | none, hE3, _ => exact ⟨hE3.1, hE3.2.1, ⟨none, cap2, rfl, fun i hi => by obtain ⟨b', o', hh, _⟩ := ents_get hE3.2.2.1 i hi; cases hh⟩, hE3.2.2.2⟩
        | some ⟨b', o', sp⟩, hE3, hob =>
          have hgb : b' ≠ g := fun e => by have := hob b' rfl; omega
          refine ⟨hE3.1, hE3.2.1, ⟨_, cap2, rfl, fun i hi => ?_⟩, hE3.2.2.2⟩
          obtain ⟨b2, off2, hq, e0, e1, e2⟩ := ents_get hE3.2.2.1 i hi
          simp only [Option.some.injEq, Addr.mk.injEq] at hq
          obtain ⟨rfl, rfl, rfl⟩ := hq
          exact ⟨_, _, rfl, hgr9.cell e0 (fun e => hgb (Option.some.inj e)), hgr9.cell e1 (fun e => hgb (Option.some.inj e)), hgr9.cell e2 (fun e => hgb (Option.some.inj e))⟩
      have hld := run_load_blk (P := Try.prog) hS9 _ Try.underlying51 rfl infoMsg
      go_wp2
      exact bodyPost_ret (v := msgV (plM (.sync k p (f1, f2) (z1, z2) b L)) a2 cap2) (results_cell Try.results39 _ _ _ ⟨g, 0, none⟩ _ (by rfl) hld) rfl ⟨a2, cap2, rfl, hE9, hB9⟩
end Go.Proofs.Ytlbacddgjagcbaa
