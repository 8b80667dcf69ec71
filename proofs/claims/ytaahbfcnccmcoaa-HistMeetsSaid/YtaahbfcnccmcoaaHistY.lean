/- The walk of Take, by what keeps answers. Conditions: as each theorem says. -/
import Derived.Test.YtaahbfcnccmcoaaHistX
namespace Go.Proofs.Ytaahbfcnccmcoaa
open Go.RowKit

theorem eight {g : Nat} {w : World} {k : Int} {z : Int × Int} {m : Value} (h : BlkAt g SyncT (syncCells k z m) w) : w.cell? ⟨g, 0, none⟩ = some (.int .i64 k) ∧ w.cell? ⟨g, 1, none⟩ = some (.int .i64 0) ∧ w.cell? ⟨g, 2, none⟩ = some (.int .i64 0) ∧ w.cell? ⟨g, 3, none⟩ = some (.int .i64 0) ∧ w.cell? ⟨g, 4, none⟩ = some (.int .i64 z.1) ∧ w.cell? ⟨g, 5, none⟩ = some (.int .i64 z.2) ∧ w.cell? ⟨g, 6, none⟩ = some (.string ⟨#[]⟩) ∧ w.cell? ⟨g, 7, none⟩ = some m :=
  ⟨h.cell rfl, h.cell rfl, h.cell rfl, h.cell rfl, h.cell rfl, h.cell rfl, h.cell rfl, h.cell rfl⟩
theorem new_cell0 (w : World) (a b : Value) (T : TypeId) : (w.alloc (.cells #[a, b] T)).cell? ⟨w.heap.size, 0, none⟩ = some a := (BlkAt.alloc_new w [a, b] T).cell rfl
theorem new_cell1 (w : World) (a b : Value) (T : TypeId) : (w.alloc (.cells #[a, b] T)).cell? ⟨w.heap.size, 1, none⟩ = some b := (BlkAt.alloc_new w [a, b] T).cell rfl
set_option maxRecDepth 100000 in
set_option maxHeartbeats 2000000 in
theorem take_ok (l : Value) (k : Int) (z : Int × Int) (M : List Ent) (b : Option Addr) (cm : Nat) (w : World) (hM : EntsAt w (.slice b M.length cm) M) (hn : M.length ≤ 1000000) (hr : rightL (0, 0) M = true) (ha : ∀ h : 0 < M.length, lessZ z M[0].z = true) (A : List Ent) (aA : Option Addr) (cA : Nat) (hA : EntsAt w (.slice aA A.length cA) A) (hAn : A.length + M.length ≤ 1000000)
    (hk : ∀ W, Below w.heap.size w W → Calls Try.prog 54 #[l, .agg #[.int .i64 k, .int .i64 0, .int .i64 0, .int .i64 0, .int .i64 z.1, .int .i64 z.2, .string ⟨#[]⟩, .slice b M.length cm]] W (KeepSaid (.slice aA A.length cA) 0 W)) :
    Calls Try.prog 40 #[l, .agg #[.int .i64 k, .int .i64 0, .int .i64 0, .int .i64 0, .int .i64 z.1, .int .i64 z.2, .string ⟨#[]⟩, .slice b M.length cm]] w fun e w' => ∃ v, e = .returned (.tuple #[v, .int .i64 0]) ∧ w'.ownsRow w.heap.size EntT 3 v (A ++ M).length (entRow (A ++ M)) ∧ Below w.heap.size w w' := by
  have hx := BlkAt.alloc_new w (syncCells k z (.slice b M.length cm)) SyncT
  have hb := alloc_below w (.cells (syncCells k z (.slice b M.length cm)).toArray SyncT)
  have HR := Lib.hid (fun W (hW : Below w.heap.size w W) => right_any M b cm W (hM.grew hW) (by omega))
  rw [hr] at HR
  have HK := Lib.hid hk
  have HB := Lib.hid hb
  have HX := Lib.hid hx
  have HM := Lib.hid (fun W (hW : Below w.heap.size w W) => hM.grew hW)
  have HC := Lib.hid (fun g W (hW : Below w.heap.size w W) h0 h1 => concat_any A M aA b cA cm g W (hA.grew hW) (hM.grew hW) h0 h1 hAn)
  clear hA hAn
  clear hx hb hk hr hM
  unfold syncCells at HB
  have hcs : (M.length = 0 ∧ decide (0 < M.length) = false) ∨ (0 < M.length ∧ decide (0 < M.length) = true) := by
    by_cases h : 0 < M.length
    · exact .inr ⟨h, decide_eq_true h⟩
    · exact .inl ⟨by omega, decide_eq_false h⟩
  go_enter Try.func40, Try.ntmps40
  rcases hcs with ⟨h0, d0⟩ | ⟨h0, d0⟩
  · obtain ⟨c0, c1, c2, c3, c4, c5, c6, c7⟩ := eight HX.out
    clear h0 ha
    go_wp2_with (fail)
    have hex := Grew.all (w.alloc (.cells #[.int .i64 k, .int .i64 0, .int .i64 0, .int .i64 0, .int .i64 z.1, .int .i64 z.2, .string ⟨#[]⟩, .slice b M.length cm] SyncT))
    refine wp_region_grew (by kernel_rfl) (by kernel_rfl) ?_
    repeat (first | go_big_quiet_skip | (go_big_quiet_want; first | (refine quiet_load_cell 22 _ rfl ⟨w.heap.size, 7, none⟩ rfl _ _ Try.underlying22 rfl (fun W hW => Grew.cell hW c7) ?_; simp only [Act.put, List.setIfInBounds_toArray, List.set_cons_succ, List.set_cons_zero]; go_big_quiet_on) | (go_big_quiet_op; first | go_big_quiet_on | (apply Exists.intro; refine ⟨fun W hW => ?_, ?_⟩; (first | exact rfl | (go_at_call 13; with_reducible exact Calls.grew hW (HR.out _ (grew_below HB.out hW)))); go_big_quiet_on))))
    refine wpQuiet_nil ?_
    intro w2 hw2
    have HB2 := Lib.hid (grew_below HB.out hw2)
    have HX2 := Lib.hid (HX.out.grew hw2)
    clear hex hw2 c0 c1 c2 c3 c4 c5 c6 c7
    obtain ⟨c0, c1, c2, c3, c4, c5, c6, c7⟩ := eight HX2.out
    go_wp2_with (
      first
      | (go_at_call 54; (with_reducible refine (HK.out _ HB2.out).mono ?_); rintro e w3 ⟨rfl, b3⟩; have c7 := Grew.cell b3 c7; have HB3 := Lib.hid (HB2.out.trans (b3.mono HB2.out.size)); clear b3)
      | (go_at_call 55; (with_reducible refine (HC.out _ _ (HB3.out.alloc HB3.out.size _) (new_cell0 _ _ _ _) (new_cell1 _ _ _ _)).mono ?_); rintro e w4 ⟨v4, rfl, hown4, b4⟩))
    go_ret2
    have hs3 := HB3.out.size
    exact ⟨_, rfl, hown4.mono (by simp; omega), (HB3.out.alloc hs3 _).trans (b4.mono (by simp; omega))⟩
  · obtain ⟨c0, c1, c2, c3, c4, c5, c6, c7⟩ := eight HX.out
    have HLs := Lib.hid (fun W => less_any z M[0].z W)
    rw [ha h0] at HLs
    obtain ⟨bb, off, rfl, e0, e1, _⟩ := ents_get (HM.out _ HB.out) 0 h0
    simp only [Nat.zero_mul, Nat.add_zero] at e0 e1
    unfold zxidV Ent.z at HLs
    clear ha
    generalize M[0] = y at *
    go_wp2_with (fail)
    have hex := Grew.all (w.alloc (.cells #[.int .i64 k, .int .i64 0, .int .i64 0, .int .i64 0, .int .i64 z.1, .int .i64 z.2, .string ⟨#[]⟩, .slice (some ⟨bb, off, none⟩) M.length cm] SyncT))
    refine wp_region_grew (by kernel_rfl) (by kernel_rfl) ?_
    repeat (first | go_big_quiet_skip | (go_big_quiet_want; first | (refine quiet_load_cell 22 _ rfl ⟨w.heap.size, 7, none⟩ rfl _ _ Try.underlying22 rfl (fun W hW => Grew.cell hW c7) ?_; simp only [Act.put, List.setIfInBounds_toArray, List.set_cons_succ, List.set_cons_zero]; go_big_quiet_on) | (refine quiet_load_mid 24 _ rfl w.heap.size 4 rfl [.int .i64 z.1, .int .i64 z.2] _ (fun W hW => range2 (Grew.cell hW c4) (Grew.cell hW c5)) Try.underlying24 rfl (by kernel_rfl) ?_; simp only [Act.put, List.setIfInBounds_toArray, List.set_cons_succ, List.set_cons_zero]; go_big_quiet_on) | (refine quiet_load_mid 24 _ rfl bb off rfl [.int .i64 y.e, .int .i64 y.c] _ (fun W hW => range2 (Grew.cell hW e0) (Grew.cell hW e1)) Try.underlying24 rfl (by kernel_rfl) ?_; simp only [Act.put, List.setIfInBounds_toArray, List.set_cons_succ, List.set_cons_zero]; go_big_quiet_on) | (go_big_quiet_op; first | go_big_quiet_on | (apply Exists.intro; refine ⟨fun W hW => ?_, ?_⟩; (first | exact rfl | (go_at_call 13; with_reducible exact Calls.grew hW (HR.out _ (grew_below HB.out hW))) | (go_at_call 14; with_reducible exact Calls.grew hW (HLs.out _))); go_big_quiet_on))))
    refine wpQuiet_nil ?_
    intro w2 hw2
    have HB2 := Lib.hid (grew_below HB.out hw2)
    have HX2 := Lib.hid (HX.out.grew hw2)
    clear hex hw2 e0 e1 c0 c1 c2 c3 c4 c5 c6 c7
    obtain ⟨c0, c1, c2, c3, c4, c5, c6, c7⟩ := eight HX2.out
    go_wp2_with (
      first
      | (go_at_call 54; (with_reducible refine (HK.out _ HB2.out).mono ?_); rintro e w3 ⟨rfl, b3⟩; have c7 := Grew.cell b3 c7; have HB3 := Lib.hid (HB2.out.trans (b3.mono HB2.out.size)); clear b3)
      | (go_at_call 55; (with_reducible refine (HC.out _ _ (HB3.out.alloc HB3.out.size _) (new_cell0 _ _ _ _) (new_cell1 _ _ _ _)).mono ?_); rintro e w4 ⟨v4, rfl, hown4, b4⟩))
    go_ret2
    have hs3 := HB3.out.size
    exact ⟨_, rfl, hown4.mono (by simp; omega), (HB3.out.alloc hs3 _).trans (b4.mono (by simp; omega))⟩
set_option maxRecDepth 100000 in
set_option maxHeartbeats 2000000 in
theorem take_old (l : Value) (k : Int) (z : Int × Int) (M : List Ent) (b : Option Addr) (cm : Nat) (w : World) (hM : EntsAt w (.slice b M.length cm) M) (hn : M.length ≤ 1000000) (hr : rightL (0, 0) M = true) (ha : ∀ h : 0 < M.length, lessZ z M[0].z = true)
    (hk : ∀ W, Below w.heap.size w W → Calls Try.prog 54 #[l, .agg #[.int .i64 k, .int .i64 0, .int .i64 0, .int .i64 0, .int .i64 z.1, .int .i64 z.2, .string ⟨#[]⟩, .slice b M.length cm]] W (KeepSaid (.slice none 0 0) 42 W)) :
    Calls Try.prog 40 #[l, .agg #[.int .i64 k, .int .i64 0, .int .i64 0, .int .i64 0, .int .i64 z.1, .int .i64 z.2, .string ⟨#[]⟩, .slice b M.length cm]] w fun e w' => e = .returned (.tuple #[.slice none 0 0, .int .i64 42]) ∧ Below w.heap.size w w' := by
  have hx := BlkAt.alloc_new w (syncCells k z (.slice b M.length cm)) SyncT
  have hb := alloc_below w (.cells (syncCells k z (.slice b M.length cm)).toArray SyncT)
  have HR := Lib.hid (fun W (hW : Below w.heap.size w W) => right_any M b cm W (hM.grew hW) (by omega))
  rw [hr] at HR
  have HK := Lib.hid hk
  have HB := Lib.hid hb
  have HX := Lib.hid hx
  have HM := Lib.hid (fun W (hW : Below w.heap.size w W) => hM.grew hW)
  clear hx hb hk hr hM
  unfold syncCells at HB
  have hcs : (M.length = 0 ∧ decide (0 < M.length) = false) ∨ (0 < M.length ∧ decide (0 < M.length) = true) := by
    by_cases h : 0 < M.length
    · exact .inr ⟨h, decide_eq_true h⟩
    · exact .inl ⟨by omega, decide_eq_false h⟩
  go_enter Try.func40, Try.ntmps40
  rcases hcs with ⟨h0, d0⟩ | ⟨h0, d0⟩
  · obtain ⟨c0, c1, c2, c3, c4, c5, c6, c7⟩ := eight HX.out
    clear h0 ha
    go_wp2_with (fail)
    have hex := Grew.all (w.alloc (.cells #[.int .i64 k, .int .i64 0, .int .i64 0, .int .i64 0, .int .i64 z.1, .int .i64 z.2, .string ⟨#[]⟩, .slice b M.length cm] SyncT))
    refine wp_region_grew (by kernel_rfl) (by kernel_rfl) ?_
    repeat (first | go_big_quiet_skip | (go_big_quiet_want; first | (refine quiet_load_cell 22 _ rfl ⟨w.heap.size, 7, none⟩ rfl _ _ Try.underlying22 rfl (fun W hW => Grew.cell hW c7) ?_; simp only [Act.put, List.setIfInBounds_toArray, List.set_cons_succ, List.set_cons_zero]; go_big_quiet_on) | (go_big_quiet_op; first | go_big_quiet_on | (apply Exists.intro; refine ⟨fun W hW => ?_, ?_⟩; (first | exact rfl | (go_at_call 13; with_reducible exact Calls.grew hW (HR.out _ (grew_below HB.out hW)))); go_big_quiet_on))))
    refine wpQuiet_nil ?_
    intro w2 hw2
    have HB2 := Lib.hid (grew_below HB.out hw2)
    have HX2 := Lib.hid (HX.out.grew hw2)
    clear hex hw2 c0 c1 c2 c3 c4 c5 c6 c7
    obtain ⟨c0, c1, c2, c3, c4, c5, c6, c7⟩ := eight HX2.out
    go_wp2_with (go_at_call 54; (with_reducible refine (HK.out _ HB2.out).mono ?_); rintro e w3 ⟨rfl, b3⟩; have c7 := Grew.cell b3 c7; have HB3 := Lib.hid (HB2.out.trans (b3.mono HB2.out.size)); clear b3)
    go_ret2
    exact ⟨rfl, HB3.out⟩
  · obtain ⟨c0, c1, c2, c3, c4, c5, c6, c7⟩ := eight HX.out
    have HLs := Lib.hid (fun W => less_any z M[0].z W)
    rw [ha h0] at HLs
    obtain ⟨bb, off, rfl, e0, e1, _⟩ := ents_get (HM.out _ HB.out) 0 h0
    simp only [Nat.zero_mul, Nat.add_zero] at e0 e1
    unfold zxidV Ent.z at HLs
    clear ha
    generalize M[0] = y at *
    go_wp2_with (fail)
    have hex := Grew.all (w.alloc (.cells #[.int .i64 k, .int .i64 0, .int .i64 0, .int .i64 0, .int .i64 z.1, .int .i64 z.2, .string ⟨#[]⟩, .slice (some ⟨bb, off, none⟩) M.length cm] SyncT))
    refine wp_region_grew (by kernel_rfl) (by kernel_rfl) ?_
    repeat (first | go_big_quiet_skip | (go_big_quiet_want; first | (refine quiet_load_cell 22 _ rfl ⟨w.heap.size, 7, none⟩ rfl _ _ Try.underlying22 rfl (fun W hW => Grew.cell hW c7) ?_; simp only [Act.put, List.setIfInBounds_toArray, List.set_cons_succ, List.set_cons_zero]; go_big_quiet_on) | (refine quiet_load_mid 24 _ rfl w.heap.size 4 rfl [.int .i64 z.1, .int .i64 z.2] _ (fun W hW => range2 (Grew.cell hW c4) (Grew.cell hW c5)) Try.underlying24 rfl (by kernel_rfl) ?_; simp only [Act.put, List.setIfInBounds_toArray, List.set_cons_succ, List.set_cons_zero]; go_big_quiet_on) | (refine quiet_load_mid 24 _ rfl bb off rfl [.int .i64 y.e, .int .i64 y.c] _ (fun W hW => range2 (Grew.cell hW e0) (Grew.cell hW e1)) Try.underlying24 rfl (by kernel_rfl) ?_; simp only [Act.put, List.setIfInBounds_toArray, List.set_cons_succ, List.set_cons_zero]; go_big_quiet_on) | (go_big_quiet_op; first | go_big_quiet_on | (apply Exists.intro; refine ⟨fun W hW => ?_, ?_⟩; (first | exact rfl | (go_at_call 13; with_reducible exact Calls.grew hW (HR.out _ (grew_below HB.out hW))) | (go_at_call 14; with_reducible exact Calls.grew hW (HLs.out _))); go_big_quiet_on))))
    refine wpQuiet_nil ?_
    intro w2 hw2
    have HB2 := Lib.hid (grew_below HB.out hw2)
    have HX2 := Lib.hid (HX.out.grew hw2)
    clear hex hw2 e0 e1 c0 c1 c2 c3 c4 c5 c6 c7
    obtain ⟨c0, c1, c2, c3, c4, c5, c6, c7⟩ := eight HX2.out
    go_wp2_with (go_at_call 54; (with_reducible refine (HK.out _ HB2.out).mono ?_); rintro e w3 ⟨rfl, b3⟩; have c7 := Grew.cell b3 c7; have HB3 := Lib.hid (HB2.out.trans (b3.mono HB2.out.size)); clear b3)
    go_ret2
    exact ⟨rfl, HB3.out⟩
end Go.Proofs.Ytaahbfcnccmcoaa
