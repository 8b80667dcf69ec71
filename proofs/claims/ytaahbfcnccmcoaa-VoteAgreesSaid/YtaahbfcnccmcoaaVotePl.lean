/- The walks of a vote's Plain and of Same at it. Conditions: as each theorem says. -/
import Derived.Test.YtaahbfcnccmcoaaVoteRm
import Derived.Test.YtaahbfcnccmcoaaHistM
import Derived.Test.YtaahbfcnccmcoaaAsr
import Derived.Test.YtaahbfcnccmcoaaQTail
import Derived.Deep.RegionHeld3
namespace Go.Proofs.Ytaahbfcnccmcoaa
open Go.RowKit

/-- A whole block stored: the operation, in a region that draws its order. -/
theorem step_store_blk {P : Program} {ops : Array Oper} {o : Oper} {a : Act} {w : World} {K : Act → World → Prop} {Q : Exit → Act → World → Prop} {E : Prop} (hgd : o.guard = none) (ty : TypeId) (x y : Operand) (ho : o.op = .store ty x y)
    (g : Nat) (T : TypeId) (cs cs' : List Value) (hx : a.eval x = .pointer (some ⟨g, 0, none⟩)) (hy : a.eval y = .agg cs'.toArray) (hb : BlkAt g T cs w) (hl : cs'.length = cs.length) (hi : (P.info? ty).map (·.size) = some cs'.length)
    (h1 : ∀ v ∈ cs', v.oneCell' = true) (h : ∀ w', BlkAt g T cs' w' → w.grownBy w' (some g) → K (a.put o.dst undef) w') :
    if Region.wanted o (yielded ops a.tmps) = true then Oper.wp P o a w K Q else E := by
  rw [if_pos (by simp [Region.wanted, hgd])]
  refine wp_store_mid ty x y ho g 0 cs'.toArray hx hy (hb.there 0 _ (by simp; omega)) (by simpa using hi) (all_oneCell_toArray h1) (h _ ?_ (grown_sets _ _ _ _))
  have := hb.sets cs' 0
  rw [setMany_full _ _ hl] at this
  exact this
theorem wpList_store_blk {P : Program} {ops : Array Oper} {rest : List Oper} {o : Oper} {a : Act} {w : World} {Q : Exit → Act → World → Prop} (hgd : o.guard = none) (ty : TypeId) (x y : Operand) (ho : o.op = .store ty x y)
    (g : Nat) (T : TypeId) (cs cs' : List Value) (hx : a.eval x = .pointer (some ⟨g, 0, none⟩)) (hy : a.eval y = .agg cs'.toArray) (hb : BlkAt g T cs w) (hl : cs'.length = cs.length) (hi : (P.info? ty).map (·.size) = some cs'.length)
    (h1 : ∀ v ∈ cs', v.oneCell' = true) (h : ∀ w', BlkAt g T cs' w' → w.grownBy w' (some g) → wpList P ops Q rest (a.put o.dst undef) w') : wpList P ops Q (o :: rest) a w := by
  refine wpList_store_mid hgd ty x y ho g 0 cs'.toArray hx hy (hb.there 0 _ (by simp; omega)) (by simpa using hi) (all_oneCell_toArray h1) (h _ ?_ (grown_sets _ _ _ _))
  have := hb.sets cs' 0
  rw [setMany_full _ _ hl] at this
  exact this
theorem run_load_blk {P : Program} {w : World} {g : Nat} {T : TypeId} {cs : List Value} (h : BlkAt g T cs w) (d : TypeDesc) (hu : P.underlying T = some d) (hd : (match d with | .struct _ | .array _ _ => true | _ => false) = true) (hi : (P.info? T).map (·.size) = some cs.length) :
    (loadVar T ⟨g, 0, none⟩).run P w = .ok (.agg cs.toArray) w := run_loadVar_row w g T T cs.toArray (0, 0) d h hu hd (by simpa using hi)
theorem results_cell {fn : Func} {s : Tmp} {T : TypeId} (h : fn.results = #[.cell s T]) (tmps : Array Value) (P : Program) (w : World) (p : Addr) (v : Value) (hp : tmps.getD s undef = .pointer (some p)) (hl : (loadVar T p).run P w = .ok v w) :
    (results fn tmps).run P w = .ok v w := by
  have hp' : tmps[s]?.getD undef = .pointer (some p) := by simpa using hp
  unfold results
  simp [h, asAddr, hp', hl]

set_option maxRecDepth 100000 in
theorem yes_vote (v : Value) (W : World) : (Instr.typeAssert (.iface 55 v) 20 55 true).run Try.prog W = .ok (.tuple #[v, .bool true]) W := run_assert_yes (P := Try.prog) 55 20 v _ Try.underlying55 rfl W
set_option maxRecDepth 100000 in
theorem plain_at (a b : Int) (w : World) : Calls Try.prog 53 #[.agg #[.int .i64 a, .int .i64 b]] w fun e w' => e = .returned (.agg #[.int .i64 a, .int .i64 b]) ∧ Below w.heap.size w w' := by
  have HB : Hid (∀ o1 o2, Below w.heap.size w ((w.alloc o1).alloc o2)) := fun o1 o2 => ((Below.refl _ w).alloc (Nat.le_refl _) _).alloc (by simp) _
  go_enter Try.func53, Try.ntmps53
  go_wp2
  exact bodyPost_ret (v := .agg #[.int .i64 a, .int .i64 b]) (by simp [results, Try.results53, go_sem]) rfl ⟨rfl, HB.out _ _⟩
def zeroMsg : List Value := [.int .i64 0, .int .i64 0, .int .i64 0, .int .i64 0, .int .i64 0, .int .i64 0, .int .i64 0, .int .i64 0, .int .i64 0, .int .i64 0, .int .i64 0, .string ⟨#[]⟩, .slice none 0 0, .bool false, .int .i64 0, .int .i64 0, .int .i64 0]
theorem msgCells_one (v : Vot) : ∀ x ∈ msgCells v, x.oneCell' = true := by
  intro x hx
  simp only [msgCells, List.mem_cons, List.not_mem_nil, or_false] at hx
  rcases hx with rfl | rfl | rfl | rfl | rfl | rfl | rfl | rfl | rfl | rfl | rfl | rfl | rfl | rfl | rfl | rfl | rfl <;> rfl
set_option maxRecDepth 100000 in
theorem infoMsg : (Try.prog.info? MgT).map (·.size) = some 17 := by kernel_rfl
theorem zero_blk (w : World) : BlkAt w.heap.size MgT zeroMsg (w.alloc (.cells #[.int .i64 0, .int .i64 0, .int .i64 0, .int .i64 0, .int .i64 0, .int .i64 0, .int .i64 0, .int .i64 0, .int .i64 0, .int .i64 0, .int .i64 0, .string ⟨#[]⟩, .slice none 0 0, .bool false, .int .i64 0, .int .i64 0, .int .i64 0] 68)) := heap_alloc_new w _
set_option maxRecDepth 100000 in
set_option maxHeartbeats 16000000 in
theorem plainV_any (v : Vot) (w : World) : Calls Try.prog 35 #[.iface 55 (votV v)] w fun e w' => e = .returned (msgV v) ∧ Below w.heap.size w w' := by
  obtain ⟨⟨l, z1, z2, p⟩, r, s⟩ := v
  unfold votV
  simp only
  have HP := Lib.hid (fun X => plain_at z1 z2 X)
  have y1 := yes_vote (.agg #[.int .i64 l, .int .i64 z1, .int .i64 z2, .int .i64 p, .int .i64 r, .int .i64 s])
  obtain ⟨W0, hW0⟩ : ∃ X, X = w.alloc (.cells #[.int .i64 0, .int .i64 0, .int .i64 0, .int .i64 0, .int .i64 0, .int .i64 0, .int .i64 0, .int .i64 0, .int .i64 0, .int .i64 0, .int .i64 0, .string ⟨#[]⟩, .slice none 0 0, .bool false, .int .i64 0, .int .i64 0, .int .i64 0] 68) := ⟨_, rfl⟩
  have hZ : BlkAt w.heap.size MgT zeroMsg W0 := by rw [hW0]; exact zero_blk w
  have hB0 : Below w.heap.size w W0 := by rw [hW0]; exact alloc_below w _
  have hz0 : W0.heap.size = w.heap.size + 1 := by rw [hW0]; simp
  obtain ⟨W, hW⟩ : ∃ X, X = W0.alloc (.cells #[.int .i64 l, .int .i64 z1, .int .i64 z2, .int .i64 p, .int .i64 r, .int .i64 s] 55) := ⟨_, rfl⟩
  have hk : W.heap[w.heap.size + 1]? = some (.cells #[.int .i64 l, .int .i64 z1, .int .i64 z2, .int .i64 p, .int .i64 r, .int .i64 s] 55 (0, 0)) := by rw [hW, ← hz0]; exact heap_alloc_new W0 _
  have hB1 : Below W0.heap.size W0 W := by rw [hW]; exact alloc_below W0 _
  have hZ := hZ.grew hB1
  have hBW := hB0.trans (hB1.mono hB0.size)
  have HW0 := Lib.hid hW0
  have HW := Lib.hid hW
  clear hW0 hW hB0 hB1 hz0
  have m0 : W.cell? ⟨w.heap.size + 1, 0, none⟩ = some (.int .i64 l) := by rw [Lib.cell_of_heap hk]; rfl
  have m1 : W.cell? ⟨w.heap.size + 1, 1, none⟩ = some (.int .i64 z1) := by rw [Lib.cell_of_heap hk]; rfl
  have m2 : W.cell? ⟨w.heap.size + 1, 2, none⟩ = some (.int .i64 z2) := by rw [Lib.cell_of_heap hk]; rfl
  have m3 : W.cell? ⟨w.heap.size + 1, 3, none⟩ = some (.int .i64 p) := by rw [Lib.cell_of_heap hk]; rfl
  have m4 : W.cell? ⟨w.heap.size + 1, 4, none⟩ = some (.int .i64 r) := by rw [Lib.cell_of_heap hk]; rfl
  have m5 : W.cell? ⟨w.heap.size + 1, 5, none⟩ = some (.int .i64 s) := by rw [Lib.cell_of_heap hk]; rfl
  clear hk
  go_enter Try.func35, Try.ntmps35
  go_upto_region 4 with (fail)
  rw [← HW0.out, ← HW.out]
  clear HW0 HW
  have hne : w.heap.size + 1 ≠ w.heap.size := by omega
  generalize hh : w.heap.size + 1 = h at *
  generalize hg : w.heap.size = g at *
  have HG := Lib.hid hg
  clear hh hg
  have hex := Grew.all W
  refine wp_region_grew_tail 12 (by kernel_rfl) (by kernel_rfl) ?_
  simp only [List.take_succ_cons, List.take_zero, List.drop_succ_cons, List.drop_zero]
  repeat (first | go_big_quiet_skip | (go_big_quiet_want; first | (refine quiet_load_mid 24 _ rfl _ _ rfl [.int .i64 z1, .int .i64 z2] _ (fun W hW => range2 (Grew.cell hW m1) (Grew.cell hW m2)) Try.underlying24 rfl (by kernel_rfl) ?_; simp only [Act.put, List.setIfInBounds_toArray, List.set_cons_succ, List.set_cons_zero]; go_big_quiet_on) | (refine quiet_load_cell _ _ rfl ⟨h, 0, none⟩ rfl _ _ Try.underlying3 rfl (fun W hW => Grew.cell hW m0) ?_; simp only [Act.put, List.setIfInBounds_toArray, List.set_cons_succ, List.set_cons_zero]; go_big_quiet_on) | (refine quiet_load_cell _ _ rfl ⟨h, 1, none⟩ rfl _ _ Try.underlying3 rfl (fun W hW => Grew.cell hW m1) ?_; simp only [Act.put, List.setIfInBounds_toArray, List.set_cons_succ, List.set_cons_zero]; go_big_quiet_on) | (refine quiet_load_cell _ _ rfl ⟨h, 2, none⟩ rfl _ _ Try.underlying3 rfl (fun W hW => Grew.cell hW m2) ?_; simp only [Act.put, List.setIfInBounds_toArray, List.set_cons_succ, List.set_cons_zero]; go_big_quiet_on) | (refine quiet_load_cell _ _ rfl ⟨h, 3, none⟩ rfl _ _ Try.underlying3 rfl (fun W hW => Grew.cell hW m3) ?_; simp only [Act.put, List.setIfInBounds_toArray, List.set_cons_succ, List.set_cons_zero]; go_big_quiet_on) | (refine quiet_load_cell _ _ rfl ⟨h, 4, none⟩ rfl _ _ Try.underlying3 rfl (fun W hW => Grew.cell hW m4) ?_; simp only [Act.put, List.setIfInBounds_toArray, List.set_cons_succ, List.set_cons_zero]; go_big_quiet_on) | (refine quiet_load_cell _ _ rfl ⟨h, 5, none⟩ rfl _ _ Try.underlying3 rfl (fun W hW => Grew.cell hW m5) ?_; simp only [Act.put, List.setIfInBounds_toArray, List.set_cons_succ, List.set_cons_zero]; go_big_quiet_on) | (go_big_quiet_op; first | go_big_quiet_on | (apply Exists.intro; refine ⟨fun W hW => ?_, ?_⟩; (first | exact rfl | (go_at_call 53; with_reducible exact Calls.grew hW (HP.out _))); go_big_quiet_on))))
  refine wpQuiet_nil ?_
  intro w3 hw3
  clear hex
  go_wp2_with (refine wpList_store_blk (by rfl) 68 _ _ (by rfl) g MgT zeroMsg (msgCells ⟨⟨l, z1, z2, p⟩, r, s⟩) (by rfl) (by rfl) (BlkAt.grew hZ hw3) rfl infoMsg (msgCells_one _) ?_)
  intro w9 hS9 hgr9
  have hb9 : Below W.heap.size W w3 := hw3
  have hBW0 : Below w.heap.size w W := by rw [HG.out]; exact hBW
  have hB9 : Below w.heap.size w w9 := (hBW0.trans (hb9.mono hBW0.size)).grown hgr9 (Nat.le_trans hBW0.size hb9.size) (fun k hk => Nat.le_of_eq (HG.out.trans (Option.some.inj hk)))
  have hld := run_load_blk (P := Try.prog) hS9 _ Try.underlying68 rfl infoMsg
  go_wp2
  exact bodyPost_ret (v := msgV ⟨⟨l, z1, z2, p⟩, r, s⟩) (results_cell Try.results35 _ _ _ ⟨g, 0, none⟩ _ (by rfl) hld) rfl ⟨rfl, hB9⟩
set_option maxRecDepth 100000 in
set_option maxHeartbeats 16000000 in
theorem sameV_any (v : Vot) (w : World) : Calls Try.prog 37 #[msgV v, msgV v] w fun e w' => e = .returned (.bool true) ∧ Below w.heap.size w w' := by
  obtain ⟨⟨l, z1, z2, p⟩, r, s⟩ := v
  unfold msgV
  simp only
  have HB : Hid (∀ o1 o2, Below w.heap.size w ((w.alloc o1).alloc o2)) := fun o1 o2 => ((Below.refl _ w).alloc (Nat.le_refl _) _).alloc (by simp) _
  have HS := Lib.hid (fun W => sameents_any [] [] none none 0 0 W ⟨none, 0, rfl, fun i hi => by simp at hi⟩ ⟨none, 0, rfl, fun i hi => by simp at hi⟩ (by simp) (by simp))
  have hse : sameE [] [] = true := decide_eq_true rfl
  rw [hse] at HS
  simp only [List.length_nil] at HS
  have s3 : ((bs []).toList == (bs []).toList) = true := beq_self_eq_true _
  clear hse
  go_enter Try.func37, Try.ntmps37
  go_wp2_with (fail)
  refine (HS.out _).mono ?_
  rintro e w1 ⟨rfl, hb1⟩
  have k013 : w1.cell? ⟨w.heap.size, 13, none⟩ = some (.bool false) := Grew.cell hb1 (by simp)
  have k014 : w1.cell? ⟨w.heap.size, 14, none⟩ = some (.int .i64 0) := Grew.cell hb1 (by simp)
  have k015 : w1.cell? ⟨w.heap.size, 15, none⟩ = some (.int .i64 0) := Grew.cell hb1 (by simp)
  have k016 : w1.cell? ⟨w.heap.size, 16, none⟩ = some (.int .i64 0) := Grew.cell hb1 (by simp)
  have k113 : w1.cell? ⟨w.heap.size + 1, 13, none⟩ = some (.bool false) := Grew.cell hb1 (by simp)
  have k114 : w1.cell? ⟨w.heap.size + 1, 14, none⟩ = some (.int .i64 0) := Grew.cell hb1 (by simp)
  have k115 : w1.cell? ⟨w.heap.size + 1, 15, none⟩ = some (.int .i64 0) := Grew.cell hb1 (by simp)
  have k116 : w1.cell? ⟨w.heap.size + 1, 16, none⟩ = some (.int .i64 0) := Grew.cell hb1 (by simp)
  go_wp2
  go_ret
  exact ⟨rfl, (HB.out _ _).trans (hb1.mono (HB.out _ _).size)⟩
end Go.Proofs.Ytaahbfcnccmcoaa
