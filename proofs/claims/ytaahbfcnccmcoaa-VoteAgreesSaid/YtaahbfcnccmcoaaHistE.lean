/- The walks of hist.Last, of the law's converters and of the reference's order. Conditions: as each theorem says. -/
import Derived.Test.YtaahbfcnccmcoaaHistS
import Derived.Deep.RegionHeld3
import Derived.Deep.DrawnRows
namespace Go.Proofs.Ytaahbfcnccmcoaa
open Go.RowKit

set_option maxRecDepth 100000 in
theorem refless_any (a b : Int × Int) (w : World) :
    Calls Try.prog 43 #[zxidV a, zxidV b] w fun e w' => e = .returned (.bool (lessZ a b)) ∧ Below w.heap.size w w' := by
  obtain ⟨a1, a2⟩ := a
  obtain ⟨b1, b2⟩ := b
  have hb : ∀ o1 o2, Below w.heap.size w ((w.alloc o1).alloc o2) := fun o1 o2 => ((Below.refl _ w).alloc (Nat.le_refl _) _).alloc (by simp) _
  have HB := Lib.hid hb
  clear hb
  unfold zxidV
  by_cases h1 : a1 < b1
  · as_aux_lemma =>
    have hl : lessZ (a1, a2) (b1, b2) = true := by rw [lessZ_iff]; exact .inl h1
    rw [hl]
    go_enter Try.func43, Try.ntmps43
    go_wp2
    go_ret
    exact ⟨rfl, HB.out _ _⟩
  · by_cases h2 : a1 = b1
    · subst h2
      by_cases h3 : a2 < b2
      · as_aux_lemma =>
        have hl : lessZ (a1, a2) (a1, b2) = true := by rw [lessZ_iff]; exact .inr ⟨rfl, h3⟩
        rw [hl]
        go_enter Try.func43, Try.ntmps43
        go_wp2
        go_ret
        exact ⟨rfl, HB.out _ _⟩
      · as_aux_lemma =>
        have hl : lessZ (a1, a2) (a1, b2) = false := by rw [Bool.eq_false_iff]; intro h; rw [lessZ_iff] at h; simp only at h; omega
        rw [hl]
        go_enter Try.func43, Try.ntmps43
        go_wp2
        go_ret
        exact ⟨rfl, HB.out _ _⟩
    · as_aux_lemma =>
      have hl : lessZ (a1, a2) (b1, b2) = false := by rw [Bool.eq_false_iff]; intro h; rw [lessZ_iff] at h; simp only at h; omega
      have h3 : (a1 == b1) = false := by rw [beq_eq_false_iff_ne]; exact h2
      rw [hl]
      go_enter Try.func43, Try.ntmps43
      go_wp2
      go_ret
      exact ⟨rfl, HB.out _ _⟩

set_option maxRecDepth 100000 in
set_option maxHeartbeats 400000 in
theorem last_any (L : List Ent) (a : Option Addr) (cap : Nat) (w : World) (hL : EntsAt w (.slice a L.length cap) L) (hn : L.length ≤ 9223372036854775807) :
    Calls Try.prog 23 #[.slice a L.length cap] w fun e w' => e = .returned (zxidV (lastZ L)) ∧ Below w.heap.size w w' := by
  have hb : ∀ o, Below w.heap.size w (w.alloc o) := fun o => (Below.refl _ w).alloc (Nat.le_refl _) _
  have HB := Lib.hid hb
  clear hb
  unfold zxidV
  by_cases h0 : L.length = 0
  · as_aux_lemma =>
    have hl : lastZ L = (0, 0) := by rw [List.eq_nil_of_length_eq_zero h0]; rfl
    rw [hl]
    have h1 : L.length ≤ 0 := by omega
    clear h0 hl hL
    go_enter Try.func23, Try.ntmps23
    go_wp2
    exact bodyPost_ret (v := .agg #[.int .i64 0, .int .i64 0]) (by simp [results, Try.results23, go_sem]) rfl ⟨rfl, HB.out _⟩
  · as_aux_lemma =>
    have hi : L.length - 1 < L.length := by omega
    obtain ⟨bb, off, rfl, e0, e1, e2⟩ := ents_get hL (L.length - 1) hi
    have hl : lastZ L = (L[L.length - 1].e, L[L.length - 1].c) := by
      unfold lastZ
      rw [List.getLast?_eq_getElem?, List.getElem?_eq_getElem hi]; rfl
    rw [hl]
    have h1 : 1 ≤ L.length := by omega
    generalize L[L.length - 1] = x at *
    have e0' : ∀ o, (w.alloc o).cell? ⟨bb, off + (L.length - 1) * 3, none⟩ = some (.int .i64 x.e) := fun o => Grew.cell (HB.out o) e0
    have e1' : ∀ o, (w.alloc o).cell? ⟨bb, off + (L.length - 1) * 3 + 1, none⟩ = some (.int .i64 x.c) := fun o => Grew.cell (HB.out o) e1
    clear hl h0 hi e0 e1 e2 hL
    go_enter Try.func23, Try.ntmps23
    go_wp2
    exact bodyPost_ret (v := .agg #[.int .i64 x.e, .int .i64 x.c]) (by simp [results, Try.results23, go_sem]) rfl ⟨rfl, HB.out _⟩
set_option maxRecDepth 100000 in
set_option maxHeartbeats 400000 in
theorem reflast_any (L : List Ent) (a : Option Addr) (cap : Nat) (w : World) (hL : EntsAt w (.slice a L.length cap) L) (hn : L.length ≤ 9223372036854775807) :
    Calls Try.prog 24 #[.slice a L.length cap] w fun e w' => e = .returned (zxidV (lastZ L)) ∧ Below w.heap.size w w' := by
  have hb : ∀ o, Below w.heap.size w (w.alloc o) := fun o => (Below.refl _ w).alloc (Nat.le_refl _) _
  have HB := Lib.hid hb
  clear hb
  unfold zxidV
  by_cases h0 : L.length = 0
  · as_aux_lemma =>
    have hl : lastZ L = (0, 0) := by rw [List.eq_nil_of_length_eq_zero h0]; rfl
    rw [hl]
    have h1 : L.length ≤ 0 := by omega
    clear h0 hl hL
    go_enter Try.func24, Try.ntmps24
    go_wp2
    exact bodyPost_ret (v := .agg #[.int .i64 0, .int .i64 0]) (by simp [results, Try.results24, go_sem]) rfl ⟨rfl, HB.out _⟩
  · as_aux_lemma =>
    have hi : L.length - 1 < L.length := by omega
    obtain ⟨bb, off, rfl, e0, e1, e2⟩ := ents_get hL (L.length - 1) hi
    have hl : lastZ L = (L[L.length - 1].e, L[L.length - 1].c) := by
      unfold lastZ
      rw [List.getLast?_eq_getElem?, List.getElem?_eq_getElem hi]; rfl
    rw [hl]
    have h1 : 1 ≤ L.length := by omega
    generalize L[L.length - 1] = x at *
    have e0' : ∀ o, (w.alloc o).cell? ⟨bb, off + (L.length - 1) * 3, none⟩ = some (.int .i64 x.e) := fun o => Grew.cell (HB.out o) e0
    have e1' : ∀ o, (w.alloc o).cell? ⟨bb, off + (L.length - 1) * 3 + 1, none⟩ = some (.int .i64 x.c) := fun o => Grew.cell (HB.out o) e1
    clear hl h0 hi e0 e1 e2 hL
    go_enter Try.func24, Try.ntmps24
    go_wp2
    exact bodyPost_ret (v := .agg #[.int .i64 x.e, .int .i64 x.c]) (by simp [results, Try.results24, go_sem]) rfl ⟨rfl, HB.out _⟩
set_option maxRecDepth 100000 in
theorem z_any (t : Int × Int) (w : World) : Calls Try.prog 19 #[.agg #[.int .i64 t.1, .int .i64 t.2]] w fun e w' => e = .returned (.agg #[.int .i64 t.1, .int .i64 t.2]) ∧ Below w.heap.size w w' := by
  have hb : ∀ o1 o2, Below w.heap.size w ((w.alloc o1).alloc o2) := fun o1 o2 => ((Below.refl _ w).alloc (Nat.le_refl _) _).alloc (by simp) _
  have HB := Lib.hid hb
  clear hb
  go_enter Try.func19, Try.ntmps19
  go_wp2
  exact bodyPost_ret (v := .agg #[.int .i64 t.1, .int .i64 t.2]) (by simp [results, Try.results19, go_sem]) rfl ⟨rfl, HB.out _ _⟩
theorem infoRefEnt : (Try.prog.info? 91).map (fun i => (i.zero, i.size, i.bytes)) = some (some (.agg #[.int .i64 0, .int .i64 0, .string ⟨#[]⟩]), 3, 32) := by kernel_rfl
theorem take_ent (L : List Ent) (i : Nat) (h : i < L.length) : entRow (L.take (i + 1)) = entRow (L.take i) ++ entRow [L[i]] := by
  rw [List.take_succ_eq_append_getElem h, entRow_append]
set_option maxRecDepth 100000 in
set_option maxHeartbeats 800000 in
theorem l_any (L : List Ent) (a : Option Addr) (cap : Nat) (w : World) (hL : EntsAt w (.slice a L.length cap) L) (hn : L.length ≤ 1000000) :
    Calls Try.prog 18 #[.slice a L.length cap] w fun e w' => ∃ v, e = .returned v ∧ w'.ownsRow w.heap.size 91 3 v L.length (entRow L) ∧ Below w.heap.size w w' := by
  obtain ⟨i5, hi, hz0, hz1, hz2⟩ := info_parts infoRefEnt
  go_enter Try.func18, Try.ntmps18
  go_wp2
  go_loopw [3, 4] (fun v vi wr => ∃ (i : Nat), vi = .int .i64 (i : Int) ∧ i ≤ L.length ∧ wr.ownsRow w.heap.size 91 3 v i (entRow (L.take i)) ∧ Below w.heap.size w wr) (fun _ vi _ => L.length - (intOf vi).toNat)
  case atStart => exact ⟨0, rfl, by omega, World.ownsRow_nil _ _ _ _, Below.refl _ _⟩
  case round =>
    obtain ⟨i, rfl, hi1, hown, hb⟩ := hrel
    by_cases h : i < L.length
    · as_aux_lemma =>
      have hob := own_base hown
      obtain ⟨bb, off, rfl, e0, e1, e2⟩ := ents_get hL i h
      have hbb := block_lt_of_cell e0
      have hne : some bb ≠ u3.ownBlock := fun h => by have := hob bb h.symm; simp only at hbb; omega
      have e0 := Grew.cell hb e0
      have e1 := Grew.cell hb e1
      have e2 := Grew.cell hb e2
      have htk := Lib.hid (take_ent L i h)
      generalize L[i] = x at *
      have HZ := Lib.hid (fun W => z_any (x.e, x.c) W)
      have hsz := hb.size
      go_wp2_with (fail)
      go_region_held3 (fun w' => w'.cell? ⟨bb, off + i * 3, none⟩ = some (.int .i64 x.e) ∧ w'.cell? ⟨bb, off + i * 3 + 1, none⟩ = some (.int .i64 x.c) ∧ w'.cell? ⟨bb, off + i * 3 + 2, none⟩ = some (.string (bs x.b))) (first | exact ⟨Grew.cell hb2 e0, Grew.cell hb2 e1, Grew.cell hb2 e2⟩ | go_keep | exact ⟨hgr3.cell (Grew.cell ((Below.refl _ w2).alloc (Nat.le_refl _) _) (Grew.cell hb2 e0)) hne, hgr3.cell (Grew.cell ((Below.refl _ w2).alloc (Nat.le_refl _) _) (Grew.cell hb2 e1)) hne, hgr3.cell (Grew.cell ((Below.refl _ w2).alloc (Nat.le_refl _) _) (Grew.cell hb2 e2)) hne⟩) (first | (go_simp; go_at_call 19; (with_reducible refine (HZ.out _).mono ?_); rintro e w2 ⟨rfl, hb2⟩; have hown2 := own_below hown.drew hb2; have hs2 : wr.heap.size ≤ w2.heap.size := hb2.size) | (refine step_append_own rfl _ _ 33 (by rfl) w.heap.size 91 i5 (.agg #[.int .i64 0, .int .i64 0, .string ⟨#[]⟩]) 3 32 Try.underlying33 hi hz0 hz1 hz2 rfl (by decide) _ _ _ (by rfl) (hown2.alloc _) ⟨w2.heap.size, 0, none⟩ 1 1 (entRow [x]) (by rfl) rfl (new_cells w2 _ 91) (entRow_one _) (by unfold maxLen; omega) (by omega) (by simp; omega) ?_; intro v3 w3 hown3 hgr3 _))
      all_goals
        have hB2 := hb.drew.trans (hb2.mono hsz)
        have hB3 := (hB2.alloc (by omega) (.cells (entRow [x]).toArray 91)).grown hgr3 (by simp; omega) hob
        rw [← htk.out] at hown3
        clear hown2 hgr3 hB2 hown e0 e1 e2
        go_wp2
        go_roundw
        case rel => exact ⟨i + 1, by go_num, by omega, hown3, hB3⟩
        case measure => simp [intOf]; omega
    · as_aux_lemma =>
      obtain rfl : i = L.length := by omega
      rw [List.take_length] at hown
      go_wp2
      go_ret
      exact ⟨_, rfl, hown, hb⟩
end Go.Proofs.Ytaahbfcnccmcoaa
