/- The walks of Plain. Conditions: as each theorem says. -/
import Derived.Test.YtlbacddgjagcbaaValU
import Derived.Test.YtlbacddgjagcbaaValO
import Derived.Test.YtlbacddgjagcbaaSets
import Derived.Test.YtlbacddgjagcbaaQTail
import Derived.Deep.RegionHeld3
namespace Go.Proofs.Ytlbacddgjagcbaa
open Go.RowKit

/-- A message, as the document's answer has it. -/
def plM : Mv → Msg
  | .vote l z p r s => ⟨1, l, z, p, 0, (0, 0), r, s, 0, [], [], false, 0, 0, 0⟩
  | .info k p o z => ⟨2, 0, z, p, o, (0, 0), 0, 0, k, [], [], false, 0, 0, 0⟩
  | .sync k p f z b L => ⟨3, 0, z, p, 0, f, 0, 0, k, b, L, false, 0, 0, 0⟩
  | .prop x => ⟨4, 0, (0, 0), 0, 0, (0, 0), 0, 0, 0, [], [x], false, 0, 0, 0⟩
  | .ack f z => ⟨5, 0, z, 0, 0, (0, 0), 0, 0, 0, [], [], f, 0, 0, 0⟩
  | .ask n c q f b => ⟨6, 0, (0, 0), 0, 0, (0, 0), 0, 0, 0, b, [], f, n, c, q⟩
  | .none => ⟨0, 0, (0, 0), 0, 0, (0, 0), 0, 0, 0, [], [], false, 0, 0, 0⟩
def PlainSaid (m : Msg) (w : World) (e : Ending) (w' : World) : Prop := ∃ a cap, e = .returned (msgV m a cap) ∧ EntsIn w' a cap m.ents ∧ Below w.heap.size w w'
def PlainNil (m : Msg) (w : World) (e : Ending) (w' : World) : Prop := e = .returned (msgV m none 0) ∧ Below w.heap.size w w'
theorem ents_none (w : World) : EntsIn w none 0 [] := ⟨by simp, by simp, ⟨none, 0, rfl, fun i hi => by simp at hi⟩, by simp⟩
theorem EntsIn.grown {w w' : World} {b off cap g : Nat} {L : List Ent} (h : EntsIn w (some ⟨b, off, none⟩) cap L) (hg : w.grownBy w' (some g)) (hne : b ≠ g) : EntsIn w' (some ⟨b, off, none⟩) cap L := by
  refine ⟨h.1, h.2.1, ⟨_, cap, rfl, fun i hi => ?_⟩, h.2.2.2⟩
  obtain ⟨b2, off2, hb, e0, e1, e2⟩ := ents_get h.2.2.1 i hi
  simp only [Option.some.injEq, Addr.mk.injEq] at hb
  obtain ⟨rfl, rfl, _⟩ := hb
  exact ⟨b, off, rfl, hg.cell e0 (fun e => hne (Option.some.inj e)), hg.cell e1 (fun e => hne (Option.some.inj e)), hg.cell e2 (fun e => hne (Option.some.inj e))⟩
theorem ents_one (w : World) (x : Ent) (hx : x.ok) (T : TypeId) : EntsIn (w.alloc (.cells #[.int .i64 x.e, .int .i64 x.c, .string (bs x.b)] T)) (some ⟨w.heap.size, 0, none⟩) 1 [x] := by
  refine ⟨by simp, by unfold maxLen; omega, ⟨_, 1, rfl, fun i hi => ⟨w.heap.size, 0, rfl, ?_⟩⟩, by simpa using hx⟩
  have h0 : i = 0 := by simpa using hi
  subst h0
  exact ⟨by simp, by simp, by simp⟩
theorem PlainNil.said {m : Msg} {w : World} {e : Ending} {w' : World} (h : PlainNil m w e w') (hm : m.ents = []) : PlainSaid m w e w' := ⟨none, 0, h.1, by rw [hm]; exact ents_none _, h.2⟩
theorem msgCells_one (m : Msg) (a : Option Addr) (cap : Nat) : ∀ v ∈ msgCells m a cap, v.oneCell' = true := by
  intro v hv
  simp only [msgCells, List.mem_cons, List.not_mem_nil, or_false] at hv
  rcases hv with rfl | rfl | rfl | rfl | rfl | rfl | rfl | rfl | rfl | rfl | rfl | rfl | rfl | rfl | rfl | rfl | rfl <;> rfl
theorem infoMsg : (Try.prog.info? 51).map (·.size) = some 17 := by kernel_rfl
def zeroM : Msg := ⟨0, 0, (0, 0), 0, 0, (0, 0), 0, 0, 0, [], [], false, 0, 0, 0⟩
abbrev MsgT : TypeId := 51
theorem zero_blk (w : World) : BlkAt w.heap.size MsgT (msgCells zeroM none 0) (w.alloc (.cells #[.int .i64 0, .int .i64 0, .int .i64 0, .int .i64 0, .int .i64 0, .int .i64 0, .int .i64 0, .int .i64 0, .int .i64 0, .int .i64 0, .int .i64 0, .string ⟨#[]⟩, .slice none 0 0, .bool false, .int .i64 0, .int .i64 0, .int .i64 0] 51)) := heap_alloc_new w _
theorem plain_at (a b : Int) (X : World) : Calls Try.prog 43 #[.agg #[.int .i64 a, .int .i64 b]] X fun e w' => e = .returned (.agg #[.int .i64 a, .int .i64 b]) ∧ Below X.heap.size X w' := plain_any (a, b) X
set_option maxRecDepth 100000 in
set_option maxHeartbeats 16000000 in
theorem plain_vote (l : Int) (z : Int × Int) (p r s : Int) (w : World) : Calls Try.prog 39 #[.iface 65 (voteV l z p r s)] w fun e w' => PlainNil (plM (.vote l z p r s)) w e w' := by
  obtain ⟨z1, z2⟩ := z
  unfold voteV
  simp only
  have HP := Lib.hid (fun X => plain_at z1 z2 X)
  have y1 := yes_vote (.agg #[.int .i64 l, .int .i64 z1, .int .i64 z2, .int .i64 p, .int .i64 r, .int .i64 s])
  obtain ⟨W0, hW0⟩ : ∃ X, X = w.alloc (.cells #[.int .i64 0, .int .i64 0, .int .i64 0, .int .i64 0, .int .i64 0, .int .i64 0, .int .i64 0, .int .i64 0, .int .i64 0, .int .i64 0, .int .i64 0, .string ⟨#[]⟩, .slice none 0 0, .bool false, .int .i64 0, .int .i64 0, .int .i64 0] 51) := ⟨_, rfl⟩
  have hZ : BlkAt w.heap.size MsgT (msgCells zeroM none 0) W0 := by rw [hW0]; exact zero_blk w
  have hB0 : Below w.heap.size w W0 := by rw [hW0]; exact alloc_below w _
  have hz0 : W0.heap.size = w.heap.size + 1 := by rw [hW0]; simp
  obtain ⟨W, hW⟩ : ∃ X, X = W0.alloc (.cells #[.int .i64 l, .int .i64 z1, .int .i64 z2, .int .i64 p, .int .i64 r, .int .i64 s] 65) := ⟨_, rfl⟩
  have hk : W.heap[w.heap.size + 1]? = some (.cells #[.int .i64 l, .int .i64 z1, .int .i64 z2, .int .i64 p, .int .i64 r, .int .i64 s] 65 (0, 0)) := by rw [hW, ← hz0]; exact heap_alloc_new W0 _
  have hB1 : Below W0.heap.size W0 W := by rw [hW]; exact alloc_below W0 _
  have hZ := hZ.grew hB1
  have hBW := hB0.trans (hB1.mono hB0.size)
  have HW0 := Lib.hid hW0
  have HW := Lib.hid hW
  clear hW0 hW hB0 hB1 hz0
  have m0 : W.cell? ⟨w.heap.size + 1, 0, none⟩ = some (.int .i64 l) := by rw [Lib.cell_of_heap hk]; rfl
  have m1 : W.cell? ⟨w.heap.size + 1, 1, none⟩ = some (.int .i64 z1) := by rw [Lib.cell_of_heap hk]; rfl
  have m2 : W.cell? ⟨w.heap.size + 1, 2, none⟩ = some (.int .i64 z2) := by rw [Lib.cell_of_heap hk]; rfl
  have m3 : W.cell? ⟨w.heap.size + 1, 3, none⟩ = some (.int .i64 p) := by rw [Lib.cell_of_heap hk]; rfl
  have m4 : W.cell? ⟨w.heap.size + 1, 4, none⟩ = some (.int .i64 r) := by rw [Lib.cell_of_heap hk]; rfl
  have m5 : W.cell? ⟨w.heap.size + 1, 5, none⟩ = some (.int .i64 s) := by rw [Lib.cell_of_heap hk]; rfl
  clear hk
  go_enter Try.func39, Try.ntmps39
  go_upto_region 4 with (fail)
  rw [← HW0.out, ← HW.out]
  clear HW0 HW
  have hne : w.heap.size + 1 ≠ w.heap.size := by omega
  generalize hh : w.heap.size + 1 = h at *
  generalize hg : w.heap.size = g at *
  have HG := Lib.hid hg
  clear hh hg
  have hex := Grew.all W
  refine wp_region_grew_tail 12 (by kernel_rfl) (by kernel_rfl) ?_
  simp only [List.take_succ_cons, List.take_zero, List.drop_succ_cons, List.drop_zero]
  repeat (first | go_big_quiet_skip | (go_big_quiet_want; first | (refine quiet_load_mid 59 _ rfl _ _ rfl [.int .i64 z1, .int .i64 z2] _ (fun W hW => range2 (Grew.cell hW m1) (Grew.cell hW m2)) Try.underlying59 rfl (by kernel_rfl) ?_; simp only [Act.put, List.setIfInBounds_toArray, List.set_cons_succ, List.set_cons_zero]; go_big_quiet_on) | (refine quiet_load_cell _ _ rfl ⟨h, 0, none⟩ rfl _ _ Try.underlying3 rfl (fun W hW => Grew.cell hW m0) ?_; simp only [Act.put, List.setIfInBounds_toArray, List.set_cons_succ, List.set_cons_zero]; go_big_quiet_on) | (refine quiet_load_cell _ _ rfl ⟨h, 1, none⟩ rfl _ _ Try.underlying3 rfl (fun W hW => Grew.cell hW m1) ?_; simp only [Act.put, List.setIfInBounds_toArray, List.set_cons_succ, List.set_cons_zero]; go_big_quiet_on) | (refine quiet_load_cell _ _ rfl ⟨h, 2, none⟩ rfl _ _ Try.underlying3 rfl (fun W hW => Grew.cell hW m2) ?_; simp only [Act.put, List.setIfInBounds_toArray, List.set_cons_succ, List.set_cons_zero]; go_big_quiet_on) | (refine quiet_load_cell _ _ rfl ⟨h, 3, none⟩ rfl _ _ Try.underlying3 rfl (fun W hW => Grew.cell hW m3) ?_; simp only [Act.put, List.setIfInBounds_toArray, List.set_cons_succ, List.set_cons_zero]; go_big_quiet_on) | (refine quiet_load_cell _ _ rfl ⟨h, 4, none⟩ rfl _ _ Try.underlying3 rfl (fun W hW => Grew.cell hW m4) ?_; simp only [Act.put, List.setIfInBounds_toArray, List.set_cons_succ, List.set_cons_zero]; go_big_quiet_on) | (refine quiet_load_cell _ _ rfl ⟨h, 5, none⟩ rfl _ _ Try.underlying3 rfl (fun W hW => Grew.cell hW m5) ?_; simp only [Act.put, List.setIfInBounds_toArray, List.set_cons_succ, List.set_cons_zero]; go_big_quiet_on) | (go_big_quiet_op; first | go_big_quiet_on | (apply Exists.intro; refine ⟨fun W hW => ?_, ?_⟩; (first | exact rfl | (go_at_call 43; with_reducible exact Calls.grew hW (HP.out _))); go_big_quiet_on))))
  refine wpQuiet_nil ?_
  intro w3 hw3
  clear hex
  go_wp2_with (refine wpList_store_blk (by rfl) 51 _ _ (by rfl) g MsgT (msgCells zeroM none 0) (msgCells (plM (.vote l (z1, z2) p r s)) none 0) (by rfl) (by rfl) (BlkAt.grew hZ hw3) rfl infoMsg (msgCells_one _ _ _) ?_)
  intro w9 hS9 hgr9
  have hb9 : Below W.heap.size W w3 := hw3
  have hBW0 : Below w.heap.size w W := by rw [HG.out]; exact hBW
  have hB9 : Below w.heap.size w w9 := (hBW0.trans (hb9.mono hBW0.size)).grown hgr9 (Nat.le_trans hBW0.size hb9.size) (fun k hk => Nat.le_of_eq (HG.out.trans (Option.some.inj hk)))
  have hld := run_load_blk (P := Try.prog) hS9 _ Try.underlying51 rfl infoMsg
  go_wp2
  exact bodyPost_ret (v := msgV (plM (.vote l (z1, z2) p r s)) none 0) (results_cell Try.results39 _ _ _ ⟨g, 0, none⟩ _ (by rfl) hld) rfl ⟨rfl, hB9⟩
set_option maxRecDepth 100000 in
set_option maxHeartbeats 16000000 in
theorem plain_info (k p o : Int) (z : Int × Int) (w : World) : Calls Try.prog 39 #[.iface 97 (infoV k p o z)] w fun e w' => PlainNil (plM (.info k p o z)) w e w' := by
  obtain ⟨z1, z2⟩ := z
  unfold infoV
  simp only
  have HP := Lib.hid (fun X => plain_at z1 z2 X)
  have n_vote := no_vote 97 (by decide) (.agg #[.int .i64 k, .int .i64 p, .int .i64 o, .int .i64 z1, .int .i64 z2])
  have y1 := yes_info (.agg #[.int .i64 k, .int .i64 p, .int .i64 o, .int .i64 z1, .int .i64 z2])
  obtain ⟨W0, hW0⟩ : ∃ X, X = w.alloc (.cells #[.int .i64 0, .int .i64 0, .int .i64 0, .int .i64 0, .int .i64 0, .int .i64 0, .int .i64 0, .int .i64 0, .int .i64 0, .int .i64 0, .int .i64 0, .string ⟨#[]⟩, .slice none 0 0, .bool false, .int .i64 0, .int .i64 0, .int .i64 0] 51) := ⟨_, rfl⟩
  have hZ : BlkAt w.heap.size MsgT (msgCells zeroM none 0) W0 := by rw [hW0]; exact zero_blk w
  have hB0 : Below w.heap.size w W0 := by rw [hW0]; exact alloc_below w _
  have hz0 : W0.heap.size = w.heap.size + 1 := by rw [hW0]; simp
  obtain ⟨W, hW⟩ : ∃ X, X = W0.alloc (.cells #[.int .i64 k, .int .i64 p, .int .i64 o, .int .i64 z1, .int .i64 z2] 97) := ⟨_, rfl⟩
  have hk : W.heap[w.heap.size + 1]? = some (.cells #[.int .i64 k, .int .i64 p, .int .i64 o, .int .i64 z1, .int .i64 z2] 97 (0, 0)) := by rw [hW, ← hz0]; exact heap_alloc_new W0 _
  have hB1 : Below W0.heap.size W0 W := by rw [hW]; exact alloc_below W0 _
  have hZ := hZ.grew hB1
  have hBW := hB0.trans (hB1.mono hB0.size)
  have HW0 := Lib.hid hW0
  have HW := Lib.hid hW
  clear hW0 hW hB0 hB1 hz0
  have m0 : W.cell? ⟨w.heap.size + 1, 0, none⟩ = some (.int .i64 k) := by rw [Lib.cell_of_heap hk]; rfl
  have m1 : W.cell? ⟨w.heap.size + 1, 1, none⟩ = some (.int .i64 p) := by rw [Lib.cell_of_heap hk]; rfl
  have m2 : W.cell? ⟨w.heap.size + 1, 2, none⟩ = some (.int .i64 o) := by rw [Lib.cell_of_heap hk]; rfl
  have m3 : W.cell? ⟨w.heap.size + 1, 3, none⟩ = some (.int .i64 z1) := by rw [Lib.cell_of_heap hk]; rfl
  have m4 : W.cell? ⟨w.heap.size + 1, 4, none⟩ = some (.int .i64 z2) := by rw [Lib.cell_of_heap hk]; rfl
  clear hk
  go_enter Try.func39, Try.ntmps39
  go_upto_region 7 with (fail)
  rw [← HW0.out, ← HW.out]
  clear HW0 HW
  have hne : w.heap.size + 1 ≠ w.heap.size := by omega
  generalize hh : w.heap.size + 1 = h at *
  generalize hg : w.heap.size = g at *
  have HG := Lib.hid hg
  clear hh hg
  have hex := Grew.all W
  refine wp_region_grew_tail 10 (by kernel_rfl) (by kernel_rfl) ?_
  simp only [List.take_succ_cons, List.take_zero, List.drop_succ_cons, List.drop_zero]
  repeat (first | go_big_quiet_skip | (go_big_quiet_want; first | (refine quiet_load_mid 59 _ rfl _ _ rfl [.int .i64 z1, .int .i64 z2] _ (fun W hW => range2 (Grew.cell hW m3) (Grew.cell hW m4)) Try.underlying59 rfl (by kernel_rfl) ?_; simp only [Act.put, List.setIfInBounds_toArray, List.set_cons_succ, List.set_cons_zero]; go_big_quiet_on) | (refine quiet_load_cell _ _ rfl ⟨h, 0, none⟩ rfl _ _ Try.underlying3 rfl (fun W hW => Grew.cell hW m0) ?_; simp only [Act.put, List.setIfInBounds_toArray, List.set_cons_succ, List.set_cons_zero]; go_big_quiet_on) | (refine quiet_load_cell _ _ rfl ⟨h, 1, none⟩ rfl _ _ Try.underlying3 rfl (fun W hW => Grew.cell hW m1) ?_; simp only [Act.put, List.setIfInBounds_toArray, List.set_cons_succ, List.set_cons_zero]; go_big_quiet_on) | (refine quiet_load_cell _ _ rfl ⟨h, 2, none⟩ rfl _ _ Try.underlying3 rfl (fun W hW => Grew.cell hW m2) ?_; simp only [Act.put, List.setIfInBounds_toArray, List.set_cons_succ, List.set_cons_zero]; go_big_quiet_on) | (refine quiet_load_cell _ _ rfl ⟨h, 3, none⟩ rfl _ _ Try.underlying3 rfl (fun W hW => Grew.cell hW m3) ?_; simp only [Act.put, List.setIfInBounds_toArray, List.set_cons_succ, List.set_cons_zero]; go_big_quiet_on) | (refine quiet_load_cell _ _ rfl ⟨h, 4, none⟩ rfl _ _ Try.underlying3 rfl (fun W hW => Grew.cell hW m4) ?_; simp only [Act.put, List.setIfInBounds_toArray, List.set_cons_succ, List.set_cons_zero]; go_big_quiet_on) | (go_big_quiet_op; first | go_big_quiet_on | (apply Exists.intro; refine ⟨fun W hW => ?_, ?_⟩; (first | exact rfl | (go_at_call 43; with_reducible exact Calls.grew hW (HP.out _))); go_big_quiet_on))))
  refine wpQuiet_nil ?_
  intro w3 hw3
  clear hex
  go_wp2_with (refine wpList_store_blk (by rfl) 51 _ _ (by rfl) g MsgT (msgCells zeroM none 0) (msgCells (plM (.info k p o (z1, z2))) none 0) (by rfl) (by rfl) (BlkAt.grew hZ hw3) rfl infoMsg (msgCells_one _ _ _) ?_)
  intro w9 hS9 hgr9
  have hb9 : Below W.heap.size W w3 := hw3
  have hBW0 : Below w.heap.size w W := by rw [HG.out]; exact hBW
  have hB9 : Below w.heap.size w w9 := (hBW0.trans (hb9.mono hBW0.size)).grown hgr9 (Nat.le_trans hBW0.size hb9.size) (fun k hk => Nat.le_of_eq (HG.out.trans (Option.some.inj hk)))
  have hld := run_load_blk (P := Try.prog) hS9 _ Try.underlying51 rfl infoMsg
  go_wp2
  exact bodyPost_ret (v := msgV (plM (.info k p o (z1, z2))) none 0) (results_cell Try.results39 _ _ _ ⟨g, 0, none⟩ _ (by rfl) hld) rfl ⟨rfl, hB9⟩
set_option maxRecDepth 100000 in
set_option maxHeartbeats 16000000 in
theorem plain_prop (x : Ent) (hx : x.ok) (w : World) : Calls Try.prog 39 #[.iface 101 (entV x)] w fun e w' => PlainSaid (plM (.prop x)) w e w' := by
  unfold entV
  have HP := Lib.hid (fun X => plain_at x.e x.c X)
  have n_vote := no_vote 101 (by decide) (.agg #[.int .i64 x.e, .int .i64 x.c, .string (bs x.b)])
  have n_info := no_info 101 (by decide) (.agg #[.int .i64 x.e, .int .i64 x.c, .string (bs x.b)])
  have n_sync := no_sync 101 (by decide) (.agg #[.int .i64 x.e, .int .i64 x.c, .string (bs x.b)])
  have y1 := yes_propose (.agg #[.int .i64 x.e, .int .i64 x.c, .string (bs x.b)])
  obtain ⟨W0, hW0⟩ : ∃ X, X = w.alloc (.cells #[.int .i64 0, .int .i64 0, .int .i64 0, .int .i64 0, .int .i64 0, .int .i64 0, .int .i64 0, .int .i64 0, .int .i64 0, .int .i64 0, .int .i64 0, .string ⟨#[]⟩, .slice none 0 0, .bool false, .int .i64 0, .int .i64 0, .int .i64 0] 51) := ⟨_, rfl⟩
  have hZ : BlkAt w.heap.size MsgT (msgCells zeroM none 0) W0 := by rw [hW0]; exact zero_blk w
  have hB0 : Below w.heap.size w W0 := by rw [hW0]; exact alloc_below w _
  have hz0 : W0.heap.size = w.heap.size + 1 := by rw [hW0]; simp
  obtain ⟨W, hW⟩ : ∃ X, X = W0.alloc (.cells #[.int .i64 x.e, .int .i64 x.c, .string (bs x.b)] 101) := ⟨_, rfl⟩
  have hk : W.heap[w.heap.size + 1]? = some (.cells #[.int .i64 x.e, .int .i64 x.c, .string (bs x.b)] 101 (0, 0)) := by rw [hW, ← hz0]; exact heap_alloc_new W0 _
  have hB1 : Below W0.heap.size W0 W := by rw [hW]; exact alloc_below W0 _
  have hZ := hZ.grew hB1
  have hBW := hB0.trans (hB1.mono hB0.size)
  have HW0 := Lib.hid hW0
  have HW := Lib.hid hW
  clear hW0 hW hB0 hB1 hz0
  have m0 : W.cell? ⟨w.heap.size + 1, 0, none⟩ = some (.int .i64 x.e) := by rw [Lib.cell_of_heap hk]; rfl
  have m1 : W.cell? ⟨w.heap.size + 1, 1, none⟩ = some (.int .i64 x.c) := by rw [Lib.cell_of_heap hk]; rfl
  have m2 : W.cell? ⟨w.heap.size + 1, 2, none⟩ = some (.string (bs x.b)) := by rw [Lib.cell_of_heap hk]; rfl
  clear hk
  go_enter Try.func39, Try.ntmps39
  go_upto_region 18 with (fail)
  rw [← HW0.out, ← HW.out]
  clear HW0 HW
  have hne : w.heap.size + 1 ≠ w.heap.size := by omega
  generalize hh : w.heap.size + 1 = h at *
  generalize hg : w.heap.size = g at *
  have HG := Lib.hid hg
  clear hh hg
  have hex := Grew.all W
  refine wp_region_grew_tail 8 (by kernel_rfl) (by kernel_rfl) ?_
  simp only [List.take_succ_cons, List.take_zero, List.drop_succ_cons, List.drop_zero]
  repeat (first | go_big_quiet_skip | (go_big_quiet_want; first | (refine quiet_load_mid 59 _ rfl _ _ rfl [.int .i64 x.e, .int .i64 x.c] _ (fun W hW => range2 (Grew.cell hW m0) (Grew.cell hW m1)) Try.underlying59 rfl (by kernel_rfl) ?_; simp only [Act.put, List.setIfInBounds_toArray, List.set_cons_succ, List.set_cons_zero]; go_big_quiet_on) | (refine quiet_load_cell _ _ rfl ⟨h, 0, none⟩ rfl _ _ Try.underlying3 rfl (fun W hW => Grew.cell hW m0) ?_; simp only [Act.put, List.setIfInBounds_toArray, List.set_cons_succ, List.set_cons_zero]; go_big_quiet_on) | (refine quiet_load_cell _ _ rfl ⟨h, 1, none⟩ rfl _ _ Try.underlying3 rfl (fun W hW => Grew.cell hW m1) ?_; simp only [Act.put, List.setIfInBounds_toArray, List.set_cons_succ, List.set_cons_zero]; go_big_quiet_on) | (refine quiet_load_cell _ _ rfl ⟨h, 2, none⟩ rfl _ _ Try.underlying9 rfl (fun W hW => Grew.cell hW m2) ?_; simp only [Act.put, List.setIfInBounds_toArray, List.set_cons_succ, List.set_cons_zero]; go_big_quiet_on) | (go_big_quiet_op; first | go_big_quiet_on | (apply Exists.intro; refine ⟨fun W hW => ?_, ?_⟩; (first | exact rfl | (go_at_call 43; with_reducible exact Calls.grew hW (HP.out _))); go_big_quiet_on))))
  refine wpQuiet_nil ?_
  intro w3 hw3
  clear hex
  have hgw : g < w3.heap.size := (BlkAt.grew hZ hw3).lt
  go_wp2_with (refine wpList_store_blk (by rfl) 51 _ _ (by rfl) g MsgT (msgCells zeroM none 0) (msgCells (plM (.prop x)) (some ⟨w3.heap.size, 0, none⟩) 1) (by rfl) (by rfl) (BlkAt.grew (BlkAt.grew hZ hw3) (alloc_below _ _)) rfl infoMsg (msgCells_one _ _ _) ?_)
  intro w9 hS9 hgr9
  have hb9 : Below W.heap.size W w3 := hw3
  have hBW0 : Below w.heap.size w W := by rw [HG.out]; exact hBW
  have hB9 : Below w.heap.size w w9 := ((hBW0.trans (hb9.mono hBW0.size)).alloc (Nat.le_trans hBW0.size hb9.size) _).grown hgr9 (by have := Nat.le_trans hBW0.size hb9.size; simp; omega) (fun k hk => Nat.le_of_eq (HG.out.trans (Option.some.inj hk)))
  have hld := run_load_blk (P := Try.prog) hS9 _ Try.underlying51 rfl infoMsg
  go_wp2
  exact bodyPost_ret (v := msgV (plM (.prop x)) (some ⟨w3.heap.size, 0, none⟩) 1) (results_cell Try.results39 _ _ _ ⟨g, 0, none⟩ _ (by rfl) hld) rfl ⟨_, 1, rfl, EntsIn.grown (ents_one w3 x hx _) hgr9 (by omega), hB9⟩
set_option maxRecDepth 100000 in
set_option maxHeartbeats 16000000 in
theorem plain_ack (f : Bool) (z : Int × Int) (w : World) : Calls Try.prog 39 #[.iface 94 (ackV f z)] w fun e w' => PlainNil (plM (.ack f z)) w e w' := by
  obtain ⟨z1, z2⟩ := z
  unfold ackV
  simp only
  have HP := Lib.hid (fun X => plain_at z1 z2 X)
  have n_vote := no_vote 94 (by decide) (.agg #[.bool f, .int .i64 z1, .int .i64 z2])
  have n_info := no_info 94 (by decide) (.agg #[.bool f, .int .i64 z1, .int .i64 z2])
  have n_sync := no_sync 94 (by decide) (.agg #[.bool f, .int .i64 z1, .int .i64 z2])
  have n_propose := no_propose 94 (by decide) (.agg #[.bool f, .int .i64 z1, .int .i64 z2])
  have y1 := yes_ack (.agg #[.bool f, .int .i64 z1, .int .i64 z2])
  obtain ⟨W0, hW0⟩ : ∃ X, X = w.alloc (.cells #[.int .i64 0, .int .i64 0, .int .i64 0, .int .i64 0, .int .i64 0, .int .i64 0, .int .i64 0, .int .i64 0, .int .i64 0, .int .i64 0, .int .i64 0, .string ⟨#[]⟩, .slice none 0 0, .bool false, .int .i64 0, .int .i64 0, .int .i64 0] 51) := ⟨_, rfl⟩
  have hZ : BlkAt w.heap.size MsgT (msgCells zeroM none 0) W0 := by rw [hW0]; exact zero_blk w
  have hB0 : Below w.heap.size w W0 := by rw [hW0]; exact alloc_below w _
  have hz0 : W0.heap.size = w.heap.size + 1 := by rw [hW0]; simp
  obtain ⟨W, hW⟩ : ∃ X, X = W0.alloc (.cells #[.bool f, .int .i64 z1, .int .i64 z2] 94) := ⟨_, rfl⟩
  have hk : W.heap[w.heap.size + 1]? = some (.cells #[.bool f, .int .i64 z1, .int .i64 z2] 94 (0, 0)) := by rw [hW, ← hz0]; exact heap_alloc_new W0 _
  have hB1 : Below W0.heap.size W0 W := by rw [hW]; exact alloc_below W0 _
  have hZ := hZ.grew hB1
  have hBW := hB0.trans (hB1.mono hB0.size)
  have HW0 := Lib.hid hW0
  have HW := Lib.hid hW
  clear hW0 hW hB0 hB1 hz0
  have m0 : W.cell? ⟨w.heap.size + 1, 0, none⟩ = some (.bool f) := by rw [Lib.cell_of_heap hk]; rfl
  have m1 : W.cell? ⟨w.heap.size + 1, 1, none⟩ = some (.int .i64 z1) := by rw [Lib.cell_of_heap hk]; rfl
  have m2 : W.cell? ⟨w.heap.size + 1, 2, none⟩ = some (.int .i64 z2) := by rw [Lib.cell_of_heap hk]; rfl
  clear hk
  go_enter Try.func39, Try.ntmps39
  go_upto_region 21 with (fail)
  rw [← HW0.out, ← HW.out]
  clear HW0 HW
  have hne : w.heap.size + 1 ≠ w.heap.size := by omega
  generalize hh : w.heap.size + 1 = h at *
  generalize hg : w.heap.size = g at *
  have HG := Lib.hid hg
  clear hh hg
  have hex := Grew.all W
  refine wp_region_grew_tail 6 (by kernel_rfl) (by kernel_rfl) ?_
  simp only [List.take_succ_cons, List.take_zero, List.drop_succ_cons, List.drop_zero]
  repeat (first | go_big_quiet_skip | (go_big_quiet_want; first | (refine quiet_load_mid 59 _ rfl _ _ rfl [.int .i64 z1, .int .i64 z2] _ (fun W hW => range2 (Grew.cell hW m1) (Grew.cell hW m2)) Try.underlying59 rfl (by kernel_rfl) ?_; simp only [Act.put, List.setIfInBounds_toArray, List.set_cons_succ, List.set_cons_zero]; go_big_quiet_on) | (refine quiet_load_cell _ _ rfl ⟨h, 0, none⟩ rfl _ _ Try.underlying4 rfl (fun W hW => Grew.cell hW m0) ?_; simp only [Act.put, List.setIfInBounds_toArray, List.set_cons_succ, List.set_cons_zero]; go_big_quiet_on) | (refine quiet_load_cell _ _ rfl ⟨h, 1, none⟩ rfl _ _ Try.underlying3 rfl (fun W hW => Grew.cell hW m1) ?_; simp only [Act.put, List.setIfInBounds_toArray, List.set_cons_succ, List.set_cons_zero]; go_big_quiet_on) | (refine quiet_load_cell _ _ rfl ⟨h, 2, none⟩ rfl _ _ Try.underlying3 rfl (fun W hW => Grew.cell hW m2) ?_; simp only [Act.put, List.setIfInBounds_toArray, List.set_cons_succ, List.set_cons_zero]; go_big_quiet_on) | (go_big_quiet_op; first | go_big_quiet_on | (apply Exists.intro; refine ⟨fun W hW => ?_, ?_⟩; (first | exact rfl | (go_at_call 43; with_reducible exact Calls.grew hW (HP.out _))); go_big_quiet_on))))
  refine wpQuiet_nil ?_
  intro w3 hw3
  clear hex
  go_wp2_with (refine wpList_store_blk (by rfl) 51 _ _ (by rfl) g MsgT (msgCells zeroM none 0) (msgCells (plM (.ack f (z1, z2))) none 0) (by rfl) (by rfl) (BlkAt.grew hZ hw3) rfl infoMsg (msgCells_one _ _ _) ?_)
  intro w9 hS9 hgr9
  have hb9 : Below W.heap.size W w3 := hw3
  have hBW0 : Below w.heap.size w W := by rw [HG.out]; exact hBW
  have hB9 : Below w.heap.size w w9 := (hBW0.trans (hb9.mono hBW0.size)).grown hgr9 (Nat.le_trans hBW0.size hb9.size) (fun k hk => Nat.le_of_eq (HG.out.trans (Option.some.inj hk)))
  have hld := run_load_blk (P := Try.prog) hS9 _ Try.underlying51 rfl infoMsg
  go_wp2
  exact bodyPost_ret (v := msgV (plM (.ack f (z1, z2))) none 0) (results_cell Try.results39 _ _ _ ⟨g, 0, none⟩ _ (by rfl) hld) rfl ⟨rfl, hB9⟩
set_option maxRecDepth 100000 in
set_option maxHeartbeats 16000000 in
theorem plain_ask (n c q : Int) (f : Bool) (b : List UInt8) (w : World) : Calls Try.prog 39 #[.iface 103 (askV n c q f b)] w fun e w' => PlainNil (plM (.ask n c q f b)) w e w' := by
  unfold askV
  have n_vote := no_vote 103 (by decide) (.agg #[.int .i64 n, .int .i64 c, .int .i64 q, .bool f, .string (bs b)])
  have n_info := no_info 103 (by decide) (.agg #[.int .i64 n, .int .i64 c, .int .i64 q, .bool f, .string (bs b)])
  have n_sync := no_sync 103 (by decide) (.agg #[.int .i64 n, .int .i64 c, .int .i64 q, .bool f, .string (bs b)])
  have n_propose := no_propose 103 (by decide) (.agg #[.int .i64 n, .int .i64 c, .int .i64 q, .bool f, .string (bs b)])
  have n_ack := no_ack 103 (by decide) (.agg #[.int .i64 n, .int .i64 c, .int .i64 q, .bool f, .string (bs b)])
  have y1 := yes_ask (.agg #[.int .i64 n, .int .i64 c, .int .i64 q, .bool f, .string (bs b)])
  obtain ⟨W0, hW0⟩ : ∃ X, X = w.alloc (.cells #[.int .i64 0, .int .i64 0, .int .i64 0, .int .i64 0, .int .i64 0, .int .i64 0, .int .i64 0, .int .i64 0, .int .i64 0, .int .i64 0, .int .i64 0, .string ⟨#[]⟩, .slice none 0 0, .bool false, .int .i64 0, .int .i64 0, .int .i64 0] 51) := ⟨_, rfl⟩
  have hZ : BlkAt w.heap.size MsgT (msgCells zeroM none 0) W0 := by rw [hW0]; exact zero_blk w
  have hB0 : Below w.heap.size w W0 := by rw [hW0]; exact alloc_below w _
  have hz0 : W0.heap.size = w.heap.size + 1 := by rw [hW0]; simp
  obtain ⟨W, hW⟩ : ∃ X, X = W0.alloc (.cells #[.int .i64 n, .int .i64 c, .int .i64 q, .bool f, .string (bs b)] 103) := ⟨_, rfl⟩
  have hk : W.heap[w.heap.size + 1]? = some (.cells #[.int .i64 n, .int .i64 c, .int .i64 q, .bool f, .string (bs b)] 103 (0, 0)) := by rw [hW, ← hz0]; exact heap_alloc_new W0 _
  have hB1 : Below W0.heap.size W0 W := by rw [hW]; exact alloc_below W0 _
  have hZ := hZ.grew hB1
  have hBW := hB0.trans (hB1.mono hB0.size)
  have HW0 := Lib.hid hW0
  have HW := Lib.hid hW
  clear hW0 hW hB0 hB1 hz0
  have m0 : W.cell? ⟨w.heap.size + 1, 0, none⟩ = some (.int .i64 n) := by rw [Lib.cell_of_heap hk]; rfl
  have m1 : W.cell? ⟨w.heap.size + 1, 1, none⟩ = some (.int .i64 c) := by rw [Lib.cell_of_heap hk]; rfl
  have m2 : W.cell? ⟨w.heap.size + 1, 2, none⟩ = some (.int .i64 q) := by rw [Lib.cell_of_heap hk]; rfl
  have m3 : W.cell? ⟨w.heap.size + 1, 3, none⟩ = some (.bool f) := by rw [Lib.cell_of_heap hk]; rfl
  have m4 : W.cell? ⟨w.heap.size + 1, 4, none⟩ = some (.string (bs b)) := by rw [Lib.cell_of_heap hk]; rfl
  clear hk
  go_enter Try.func39, Try.ntmps39
  go_upto_region 24 with (fail)
  rw [← HW0.out, ← HW.out]
  clear HW0 HW
  have hne : w.heap.size + 1 ≠ w.heap.size := by omega
  generalize hh : w.heap.size + 1 = h at *
  generalize hg : w.heap.size = g at *
  have HG := Lib.hid hg
  clear hh hg
  go_wp2_with (refine wpList_store_blk (by rfl) 51 _ _ (by rfl) g MsgT (msgCells zeroM none 0) (msgCells (plM (.ask n c q f b)) none 0) (by rfl) (by rfl) hZ rfl infoMsg (msgCells_one _ _ _) ?_)
  intro w9 hS9 hgr9
  have hBW0 : Below w.heap.size w W := by rw [HG.out]; exact hBW
  have hB9 : Below w.heap.size w w9 := hBW0.grown hgr9 hBW0.size (fun k hk => Nat.le_of_eq (HG.out.trans (Option.some.inj hk)))
  have hld := run_load_blk (P := Try.prog) hS9 _ Try.underlying51 rfl infoMsg
  go_wp2
  exact bodyPost_ret (v := msgV (plM (.ask n c q f b)) none 0) (results_cell Try.results39 _ _ _ ⟨g, 0, none⟩ _ (by rfl) hld) rfl ⟨rfl, hB9⟩
set_option maxRecDepth 100000 in
set_option maxHeartbeats 16000000 in
theorem plain_nil (w : World) : Calls Try.prog 39 #[.nilIface] w fun e w' => PlainNil (plM .none) w e w' := by
  have n_vote := nil_vote
  have n_info := nil_info
  have n_sync := nil_sync
  have n_propose := nil_propose
  have n_ack := nil_ack
  have n_ask := nil_ask
  obtain ⟨W0, hW0⟩ : ∃ X, X = w.alloc (.cells #[.int .i64 0, .int .i64 0, .int .i64 0, .int .i64 0, .int .i64 0, .int .i64 0, .int .i64 0, .int .i64 0, .int .i64 0, .int .i64 0, .int .i64 0, .string ⟨#[]⟩, .slice none 0 0, .bool false, .int .i64 0, .int .i64 0, .int .i64 0] 51) := ⟨_, rfl⟩
  have hZ : BlkAt w.heap.size MsgT (msgCells zeroM none 0) W0 := by rw [hW0]; exact zero_blk w
  have hB0 : Below w.heap.size w W0 := by rw [hW0]; exact alloc_below w _
  have HW0 := Lib.hid hW0
  clear hW0
  go_enter Try.func39, Try.ntmps39
  go_upto_region 25 with (fail)
  rw [← HW0.out]
  clear HW0
  generalize hg : w.heap.size = g at *
  have HG := Lib.hid hg
  clear hg
  go_wp2_with (refine wpList_store_blk (by rfl) 51 _ _ (by rfl) g MsgT (msgCells zeroM none 0) (msgCells (plM .none) none 0) (by rfl) (by rfl) hZ rfl infoMsg (msgCells_one _ _ _) ?_)
  intro w9 hS9 hgr9
  have hB0' : Below w.heap.size w W0 := by rw [HG.out]; exact hB0
  have hB9 : Below w.heap.size w w9 := hB0'.grown hgr9 hB0'.size (fun k hk => Nat.le_of_eq (HG.out.trans (Option.some.inj hk)))
  have hld := run_load_blk (P := Try.prog) hS9 _ Try.underlying51 rfl infoMsg
  go_wp2
  exact bodyPost_ret (v := msgV (plM .none) none 0) (results_cell Try.results39 _ _ _ ⟨g, 0, none⟩ _ (by rfl) hld) rfl ⟨rfl, hB9⟩
end Go.Proofs.Ytlbacddgjagcbaa
