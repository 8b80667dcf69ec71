/- The walks of a nil node's methods. Conditions: as each theorem says. -/
import Derived.Test.YtkidhbflojlmoaaGreatValU
import Derived.Test.YtkidhbflojlmoaaGreatQTail
namespace Go.Proofs.YtkidhbflojlmoaaGreat
open Go.RowKit

set_option maxRecDepth 100000 in
theorem propose_nil (s : Value) (w : World) : Calls Tryz.prog 14 #[.pointer none, s] w fun e w' => e = .returned (.tuple #[.slice none 0 0, .int .i64 2]) ∧ Below w.heap.size w w' := by
  go_enter Tryz.func14, Tryz.ntmps14
  go_wp2
  go_ret2
  exact ⟨rfl, Below.refl _ _⟩
set_option maxRecDepth 100000 in
theorem start_nil (w : World) : Calls Tryz.prog 15 #[.pointer none] w fun e w' => e = .returned (.slice none 0 0) ∧ Below w.heap.size w w' := by
  go_enter Tryz.func15, Tryz.ntmps15
  go_wp2
  go_ret
  exact ⟨rfl, Below.refl _ _⟩
set_option maxRecDepth 100000 in
theorem tick_nil (w : World) : Calls Tryz.prog 16 #[.pointer none] w fun e w' => e = .returned (.slice none 0 0) ∧ Below w.heap.size w w' := by
  go_enter Tryz.func16, Tryz.ntmps16
  go_wp2
  go_ret
  exact ⟨rfl, Below.refl _ _⟩
set_option maxRecDepth 100000 in
set_option maxHeartbeats 1000000 in
theorem take_nil (n : Int) (v : Value) (w : World) : Calls Tryz.prog 17 #[.pointer none, .int .i64 n, v] w fun e w' => e = .returned (.slice none 0 0) ∧ Below w.heap.size w w' := by
  go_enter Tryz.func17, Tryz.ntmps17
  go_wp2
  go_ret
  exact ⟨rfl, Below.refl _ _⟩
set_option maxRecDepth 100000 in
theorem compact_nil (a b : Int) (s : Value) (w : World) : Calls Tryz.prog 19 #[.pointer none, .agg #[.int .i64 a, .int .i64 b], s] w fun e w' => e = .returned (.int .i64 2) ∧ Below w.heap.size w w' := by
  have HB := Lib.hid (fun o => alloc_below w o)
  go_enter Tryz.func19, Tryz.ntmps19
  go_wp2
  go_ret
  exact ⟨rfl, HB.out _⟩
set_option maxRecDepth 100000 in
theorem state_nil (w : World) : Calls Tryz.prog 11 #[.pointer none] w fun e w' => e = .returned (.agg #[.int .i64 0, .int .i64 0, .int .i64 0, .int .i64 0, .string ⟨#[]⟩, .slice none 0 0]) ∧ Below w.heap.size w w' := by
  have HB := Lib.hid (fun o => alloc_below w o)
  go_enter Tryz.func11, Tryz.ntmps11
  go_wp2
  exact bodyPost_ret (v := .agg #[.int .i64 0, .int .i64 0, .int .i64 0, .int .i64 0, .string ⟨#[]⟩, .slice none 0 0]) (by simp [results, Tryz.results11, go_sem]) rfl ⟨rfl, HB.out _⟩
set_option maxRecDepth 100000 in
theorem phase_nil (w : World) : Calls Tryz.prog 10 #[.pointer none] w fun e w' => e = .returned (.agg #[.int .i64 0, .int .i64 0, .bool false, .int .i64 0, .int .i64 0]) ∧ Below w.heap.size w w' := by
  have HB := Lib.hid (fun o => alloc_below w o)
  go_enter Tryz.func10, Tryz.ntmps10
  go_wp2
  exact bodyPost_ret (v := .agg #[.int .i64 0, .int .i64 0, .bool false, .int .i64 0, .int .i64 0]) (by simp [results, Tryz.results10, go_sem]) rfl ⟨rfl, HB.out _⟩
set_option maxRecDepth 100000 in
theorem z_any (a b : Int) (w : World) : Calls Tryz.prog 47 #[.agg #[.int .i64 a, .int .i64 b]] w fun e w' => e = .returned (.agg #[.int .i64 a, .int .i64 b]) ∧ Below w.heap.size w w' := by
  have HB := Lib.hid (two_allocs w)
  go_enter Tryz.func47, Tryz.ntmps47
  go_wp2
  exact bodyPost_ret (v := .agg #[.int .i64 a, .int .i64 b]) (by simp [results, Tryz.results47, go_sem]) rfl ⟨rfl, HB.out _ _⟩
set_option maxRecDepth 100000 in
theorem l_nil (w : World) : Calls Tryz.prog 48 #[.slice none 0 0] w fun e w' => e = .returned (.slice none 0 0) ∧ Below w.heap.size w w' := by
  go_enter Tryz.func48, Tryz.ntmps48
  go_wp2
  go_loopg [3, 4] 1 (fun gk v3 v4 wr => v3 = .slice none 0 0 ∧ v4 = .int .i64 0 ∧ wr = w)
  case atStart => exact ⟨rfl, rfl, rfl⟩
  case round =>
    obtain ⟨rfl, rfl, rfl⟩ := hrel
    go_wp2
    go_ret
    exact ⟨rfl, Below.refl _ _⟩
set_option maxRecDepth 100000 in
theorem sameE_nil (w : World) : Calls Tryz.prog 46 #[.slice none 0 0, .slice none 0 0] w fun e w' => e = .returned (.bool true) ∧ Below w.heap.size w w' := by
  go_enter Tryz.func46, Tryz.ntmps46
  go_wp2
  go_loopg [5] 1 (fun gk v5 wr => v5 = .int .i64 0 ∧ wr = w)
  case atStart => exact ⟨rfl, rfl⟩
  case round =>
    obtain ⟨rfl, rfl⟩ := hrel
    go_wp2
    go_ret
    exact ⟨rfl, Below.refl _ _⟩
def zeroS : Value := .agg #[.int .i64 0, .int .i64 0, .int .i64 0, .int .i64 0, .string ⟨#[]⟩, .slice none 0 0]
set_option maxRecDepth 100000 in
set_option maxHeartbeats 2000000 in
theorem same_zero (w : World) : Calls Tryz.prog 20 #[zeroS, zeroS] w fun e w' => e = .returned (.bool true) ∧ Below w.heap.size w w' := by
  have HS := Lib.hid sameE_nil
  unfold zeroS
  have HB := Lib.hid (two_allocs w)
  go_enter Tryz.func20, Tryz.ntmps20
  go_wp2_with (go_at_call 46; (with_reducible refine (HS.out _).mono ?_); rintro e w1 ⟨rfl, hb1⟩)
  go_ret
  exact ⟨rfl, (HB.out _ _).trans (hb1.mono (HB.out _ _).size)⟩
abbrev RStaT : TypeId := 66
set_option maxRecDepth 100000 in
set_option maxHeartbeats 4000000 in
theorem plain_zero (w : World) : Calls Tryz.prog 21 #[zeroS] w fun e w' => e = .returned zeroS ∧ Below w.heap.size w w' := by
  have HZ := Lib.hid (fun W => z_any 0 0 W)
  have HL := Lib.hid l_nil
  unfold zeroS
  have h1 := (BlkAt.alloc_new w [.int .i64 0, .int .i64 0, .int .i64 0, .int .i64 0, .string ⟨#[]⟩, .slice none 0 0] StaT).grew (alloc_below _ (.cells #[.int .i64 0, .int .i64 0, .int .i64 0, .int .i64 0, .string ⟨#[]⟩, .slice none 0 0] RStaT))
  have h2 := BlkAt.alloc_new (w.alloc (.cells #[.int .i64 0, .int .i64 0, .int .i64 0, .int .i64 0, .string ⟨#[]⟩, .slice none 0 0] StaT)) [.int .i64 0, .int .i64 0, .int .i64 0, .int .i64 0, .string ⟨#[]⟩, .slice none 0 0] RStaT
  have hb := two_allocs w (.cells #[.int .i64 0, .int .i64 0, .int .i64 0, .int .i64 0, .string ⟨#[]⟩, .slice none 0 0] StaT) (.cells #[.int .i64 0, .int .i64 0, .int .i64 0, .int .i64 0, .string ⟨#[]⟩, .slice none 0 0] RStaT)
  rw [World.size_alloc] at h2
  have HH := Lib.hid (And.intro h1 (And.intro h2 hb))
  clear h1 h2 hb
  go_enter Tryz.func21, Tryz.ntmps21
  go_wp2_with (fail)
  obtain ⟨h1, h2, hb⟩ := HH.out
  generalize (w.alloc (.cells #[.int .i64 0, .int .i64 0, .int .i64 0, .int .i64 0, .string ⟨#[]⟩, .slice none 0 0] StaT)).alloc (.cells #[.int .i64 0, .int .i64 0, .int .i64 0, .int .i64 0, .string ⟨#[]⟩, .slice none 0 0] RStaT) = w1 at *
  have hb' := hb
  clear hb
  obtain ⟨b, hbw⟩ : ∃ b, b = w.heap.size := ⟨_, rfl⟩
  rw [← hbw] at h1 h2 ⊢
  have hbl : w.heap.size ≤ b + 1 := by omega
  clear hbw
  have x0 := h1.cell (i := 0) (v := .int .i64 0) rfl
  have x1 := h1.cell (i := 1) (v := .int .i64 0) rfl
  have x2 := h1.cell (i := 2) (v := .int .i64 0) rfl
  have x3 := h1.cell (i := 3) (v := .int .i64 0) rfl
  have x4 := h1.cell (i := 4) (v := .string ⟨#[]⟩) rfl
  have x5 := h1.cell (i := 5) (v := .slice none 0 0) rfl
  clear h1
  have H2 := Lib.hid h2
  clear h2
  have hex := Grew.all w1
  refine wp_region_grew_tail 13 (by kernel_rfl) (by kernel_rfl) ?_
  simp only [List.take_succ_cons, List.take_zero, List.drop_succ_cons, List.drop_zero]
  repeat (first | go_big_quiet_skip | (go_big_quiet_want; first | (refine quiet_load_cell _ _ rfl ⟨b, 0, none⟩ rfl _ _ Tryz.underlying3 rfl (fun W hW => Grew.cell hW x0) ?_; simp only [Act.put, List.setIfInBounds_toArray, List.set_cons_succ, List.set_cons_zero]; go_big_quiet_on) | (refine quiet_load_cell _ _ rfl ⟨b, 1, none⟩ rfl _ _ Tryz.underlying3 rfl (fun W hW => Grew.cell hW x1) ?_; simp only [Act.put, List.setIfInBounds_toArray, List.set_cons_succ, List.set_cons_zero]; go_big_quiet_on) | (refine quiet_load_mid 41 _ rfl b 2 rfl [.int .i64 0, .int .i64 0] _ (fun W hW => range2 (Grew.cell hW x2) (Grew.cell hW x3)) Tryz.underlying41 rfl (by kernel_rfl) ?_; simp only [Act.put, List.setIfInBounds_toArray, List.set_cons_succ, List.set_cons_zero]; go_big_quiet_on) | (refine quiet_load_cell _ _ rfl ⟨b, 4, none⟩ rfl _ _ Tryz.underlying9 rfl (fun W hW => Grew.cell hW x4) ?_; simp only [Act.put, List.setIfInBounds_toArray, List.set_cons_succ, List.set_cons_zero]; go_big_quiet_on) | (refine quiet_load_cell _ _ rfl ⟨b, 5, none⟩ rfl _ _ Tryz.underlying27 rfl (fun W hW => Grew.cell hW x5) ?_; simp only [Act.put, List.setIfInBounds_toArray, List.set_cons_succ, List.set_cons_zero]; go_big_quiet_on) | (go_big_quiet_op; first | go_big_quiet_on | (apply Exists.intro; refine ⟨fun W hW => ?_, ?_⟩; (first | (go_at_call 47; with_reducible exact Calls.grew hW (HZ.out _)) | (go_at_call 48; with_reducible exact Calls.grew hW (HL.out _))); go_big_quiet_on))))
  refine wpQuiet_nil ?_
  intro w3 hw3
  clear hex
  have g2 := H2.out.grew hw3
  have y0 := g2.cell (i := 0) (v := .int .i64 0) rfl
  have y1 := g2.cell (i := 1) (v := .int .i64 0) rfl
  have y2 := g2.cell (i := 2) (v := .int .i64 0) rfl
  have y3 := g2.cell (i := 3) (v := .int .i64 0) rfl
  have y4 := g2.cell (i := 4) (v := .string ⟨#[]⟩) rfl
  have y5 := g2.cell (i := 5) (v := .slice none 0 0) rfl
  have yf := g2.frozen
  have hb3 : Below w.heap.size w w3 := hb'.trans (Below.mono (show Below w1.heap.size w1 w3 from hw3) hb'.size)
  have HG2 := Lib.hid g2
  have HB3 := Lib.hid hb3
  clear g2 hw3 hb3 x0 x1 x2 x3 x4 x5
  go_wp2
  have z0 := BlkAt.set HG2.out 0 (.int .i64 0)
  have z1 := BlkAt.set z0 1 (.int .i64 0)
  have z2 := BlkAt.set z1 2 (.int .i64 0)
  have z3 := BlkAt.set z2 3 (.int .i64 0)
  have z4 := BlkAt.set z3 4 (.string ⟨#[]⟩)
  have z5 := BlkAt.set z4 5 (.slice none 0 0)
  have hbe := bel_set (bel_set (bel_set (bel_set (bel_set (bel_set HB3.out hbl 0 (.int .i64 0)) hbl 1 (.int .i64 0)) hbl 2 (.int .i64 0)) hbl 3 (.int .i64 0)) hbl 4 (.string ⟨#[]⟩)) hbl 5 (.slice none 0 0)
  generalize (((((w3.setCell ⟨b + 1, 0, none⟩ (.int .i64 0)).setCell ⟨b + 1, 1, none⟩ (.int .i64 0)).setCell ⟨b + 1, 2, none⟩ (.int .i64 0)).setCell ⟨b + 1, 3, none⟩ (.int .i64 0)).setCell ⟨b + 1, 4, none⟩ (.string ⟨#[]⟩)).setCell ⟨b + 1, 5, none⟩ (.slice none 0 0) = w4 at *
  have q0 := z5.cell (i := 0) (v := .int .i64 0) rfl
  have q1 := z5.cell (i := 1) (v := .int .i64 0) rfl
  have q2 := z5.cell (i := 2) (v := .int .i64 0) rfl
  have q3 := z5.cell (i := 3) (v := .int .i64 0) rfl
  have q4 := z5.cell (i := 4) (v := .string ⟨#[]⟩) rfl
  have q5 := z5.cell (i := 5) (v := .slice none 0 0) rfl
  exact bodyPost_ret (v := .agg #[.int .i64 0, .int .i64 0, .int .i64 0, .int .i64 0, .string ⟨#[]⟩, .slice none 0 0]) (by simp [results, Tryz.results21, go_sem, q0, q1, q2, q3, q4, q5]) rfl ⟨rfl, hbe⟩
end Go.Proofs.YtkidhbflojlmoaaGreat
