/- The walk of hist.Plan. Conditions: as each theorem says. -/
import Derived.Test.YtkidhbflojlmoaaGreatHistC
import Derived.Deep.Onto
namespace Go.Proofs.YtkidhbflojlmoaaGreat
open Go.RowKit

/-- How a follower comes to have a history. -/
def planP (L : List Ent) (begin last : Int × Int) : Int × (Int × Int) × List Ent :=
  if findB L last = true ∨ last = begin then (1, last, L.drop (findN L last))
  else if lessZ last begin = true then (3, begin, L)
  else if findN L last = 0 then (2, begin, L.drop (findN L last))
  else (2, (L.getD (findN L last - 1) default).z, L.drop (findN L last))
/-- Where a slice's rest begins. -/
def slA (a : Option Addr) (n cap : Nat) : Option Addr := if cap = n then a else a.map (·.add (n * 3))
theorem ents_drop {w : World} {a : Option Addr} {n cap : Nat} {L : List Ent} (h : EntsAt w (.slice a n cap) L) (k c : Nat) (hk : k ≤ L.length) (hc : L.length ≤ cap) : EntsAt w (.slice (slA a k cap) (L.length - k) c) (L.drop k) := by
  refine ⟨slA a k cap, c, by rw [List.length_drop], fun i hi => ?_⟩
  rw [List.length_drop] at hi
  obtain ⟨b', off', rfl, hcl⟩ := ents_get h (k + i) (by omega)
  refine ⟨b', off' + k * 3, ?_, ?_⟩
  · unfold slA
    rw [if_neg (by omega)]
    unfold Addr.add
    by_cases h0 : k * 3 = 0
    · simp [h0]
    · simp [h0]
  · rw [List.getElem_drop, show off' + k * 3 + i * 3 = off' + (k + i) * 3 by omega]
    exact hcl
theorem zx_cases (a b : Int × Int) : (a = b ∧ (a.1 == b.1) = true ∧ (a.2 == b.2) = true) ∨ (a ≠ b ∧ (a.1 == b.1) = true ∧ (a.2 == b.2) = false) ∨ (a ≠ b ∧ (a.1 == b.1) = false) := by
  obtain ⟨a1, a2⟩ := a
  obtain ⟨b1, b2⟩ := b
  by_cases h1 : a1 = b1
  · by_cases h2 : a2 = b2
    · subst h1 h2; exact .inl ⟨rfl, by simp, by simp⟩
    · subst h1; exact .inr (.inl ⟨fun h => h2 (congrArg Prod.snd h), by simp, by simpa using h2⟩)
  · exact .inr (.inr ⟨fun h => h1 (congrArg Prod.fst h), by simpa using h1⟩)
theorem three_new (w : World) (o1 o2 o3 : Obj) : (((w.alloc o1).alloc o2).alloc o3).heap[w.heap.size]? = some o1 ∧ (((w.alloc o1).alloc o2).alloc o3).heap[w.heap.size + 1]? = some o2 ∧ (((w.alloc o1).alloc o2).alloc o3).heap[w.heap.size + 1 + 1]? = some o3 := by
  have s1 : (w.alloc o1).heap.size = w.heap.size + 1 := by simp
  have s2 : ((w.alloc o1).alloc o2).heap.size = w.heap.size + 1 + 1 := by simp
  refine ⟨?_, ?_, ?_⟩
  · rw [Below.heap_alloc _ _ _ (by omega), Below.heap_alloc _ _ _ (by omega)]; exact heap_alloc_new w o1
  · rw [Below.heap_alloc _ _ _ (by omega), ← s1]; exact heap_alloc_new _ o2
  · rw [← s2]; exact heap_alloc_new _ o3
theorem results_plan (tmps : Array Value) (w : World) (g : Nat) (v1 v2 : Value) (cs : Array Value) (fr : Nat × Nat)
    (h6 : tmps.getD 6 undef = v1) (h8 : tmps.getD 8 undef = v2) (hp : tmps.getD 7 undef = .pointer (some ⟨g, 0, none⟩)) (hg : w.heap[g]? = some (.cells cs 41 fr)) (hs : cs.size = 2) :
    (results Tryz.f109 tmps).run Tryz.prog w = .ok (.tuple #[v1, .agg cs, v2]) w := by
  have hres : Tryz.f109.results = #[.tmp 6, .cell 7 41, .tmp 8] := by kernel_rfl
  have hp' : tmps[7]?.getD undef = .pointer (some ⟨g, 0, none⟩) := by simpa using hp
  have h6' : tmps[6]?.getD undef = v1 := by simpa using h6
  have h8' : tmps[8]?.getD undef = v2 := by simpa using h8
  have hi : (Tryz.prog.info? 41).map (·.size) = some cs.size := by rw [hs]; kernel_rfl
  simp [results, hres, hp', h6', h8', asAddr, run_loadVar_row w g 41 41 cs fr _ hg Tryz.underlying41 rfl hi]
/-- What Plan's contract says. -/
def PlanSaid (r : Int × (Int × Int) × List Ent) (w : World) (e : Ending) (w' : World) : Prop :=
  ∃ v, e = .returned (.tuple #[.int .i64 r.1, zxidV r.2.1, v]) ∧ w'.ownsRow w.heap.size 72 3 v r.2.2.length (entRow r.2.2) ∧ Below w.heap.size w w'
theorem clone_opt (L : List Ent) (a : Option Addr) (k c : Nat) (w : World) (hL : EntsAt w (.slice a (L.length - k) c) (L.drop k)) (hn : L.length ≤ 1000000) :
    Calls Tryz.prog 27 #[.slice a (L.length - k) c] w fun e w' => ∃ v, e = .returned v ∧ w'.ownsRow w.heap.size 72 3 v (L.length - k) (entRow (L.drop k)) ∧ Below w.heap.size w w' := by
  have hl : (L.drop k).length = L.length - k := List.length_drop
  rcases a with _ | ⟨bb, off, spot⟩
  · have h0 : L.length - k = 0 := by
      rcases Nat.eq_zero_or_pos (L.length - k) with h | h
      · exact h
      · obtain ⟨b, off, h1, _⟩ := ents_get hL 0 (by omega)
        simp at h1
    have hd : L.drop k = [] := List.eq_nil_of_length_eq_zero (by omega)
    rw [h0, hd]
    refine (clone_nil c w).mono ?_
    rintro e w' ⟨rfl, rfl⟩
    exact ⟨_, rfl, World.ownsRow_nil _ _ _ _, Below.refl _ _⟩
  · by_cases h0 : L.length - k = 0
    · have hd : L.drop k = [] := List.eq_nil_of_length_eq_zero (by omega)
      rw [h0, hd]
      refine (clone_none ⟨bb, off, spot⟩ c w).mono ?_
      rintro e w' ⟨v, rfl, h1, h2⟩
      exact ⟨v, rfl, h1, h2⟩
    · obtain ⟨b, off', h1, _⟩ := ents_get hL 0 (by omega)
      simp only [Option.some.injEq, Addr.mk.injEq] at h1
      obtain ⟨rfl, rfl, rfl⟩ := h1
      have h := clone_any (L.drop k) bb off c w (by rw [hl]; exact hL) (by rw [hl]; omega)
      rw [hl] at h
      exact h
theorem clone_full (L : List Ent) (a : Option Addr) (c : Nat) (w : World) (hL : EntsAt w (.slice a L.length c) L) (hn : L.length ≤ 1000000) :
    Calls Tryz.prog 27 #[.slice a L.length c] w fun e w' => ∃ v, e = .returned v ∧ w'.ownsRow w.heap.size 72 3 v L.length (entRow L) ∧ Below w.heap.size w w' := clone_opt L a 0 c w hL hn
theorem plan_end (g : Nat) (w w2 w3 : World) (L : List Ent) (k n : Nat) (v : Value) (z : Int × Int) (tmps : Array Value) (x0 x1 : Value) (hz2 : g < w2.heap.size) (hgw : w.heap.size ≤ g)
    (hown : w3.ownsRow w2.heap.size 72 3 v n (entRow L)) (hn : n = L.length) (hb2w : Below w.heap.size w w2) (hb3 : Below w2.heap.size w2 w3) (K2 : w3.heap[g]? = some (.cells #[x0, x1] 41 (0, 0)))
    (h6 : tmps.getD 6 undef = .int .i64 k) (h8 : tmps.getD 8 undef = v) (hp : tmps.getD 7 undef = .pointer (some ⟨g, 0, none⟩)) (W : World) (hW : W = ((w3.setCell ⟨g, 0, none⟩ (.int .i64 z.1)).setCell ⟨g, 1, none⟩ (.int .i64 z.2)).drew ∨ W = (w3.setCell ⟨g, 0, none⟩ (.int .i64 z.1)).setCell ⟨g, 1, none⟩ (.int .i64 z.2)) :
    bodyPost Tryz.prog Tryz.f109 (fun e w' => PlanSaid ((k : Int), z, L) w e w') Exit.ret ⟨tmps, []⟩ W := by
  have g0 := Lib.heap_setCell_same (i := 0) K2 (.int .i64 z.1)
  have g1 := Lib.heap_setCell_same (i := 1) g0 (.int .i64 z.2)
  have hB : Below w.heap.size w w3 := hb2w.trans (hb3.mono hb2w.size)
  refine bodyPost_ret (v := .tuple #[.int .i64 k, zxidV z, v]) ?_ rfl ⟨v, rfl, ?_, ?_⟩
  · have g2 : W.heap[g]? = some (.cells #[.int .i64 z.1, .int .i64 z.2] 41 (0, 0)) := by rcases hW with rfl | rfl <;> exact g1
    exact results_plan tmps _ g _ _ #[.int .i64 z.1, .int .i64 z.2] (0, 0) h6 h8 hp g2 rfl
  · subst hn
    have h := (ownsRow_setCell_below (ownsRow_setCell_below hown (a := ⟨g, 0, none⟩) hz2 (.int .i64 z.1)) (a := ⟨g, 1, none⟩) hz2 (.int .i64 z.2)).mono hb2w.size
    rcases hW with rfl | rfl
    · exact h.drew
    · exact h
  · have h := (hB.setCell (p := ⟨g, 0, none⟩) hgw (.int .i64 z.1)).setCell (p := ⟨g, 1, none⟩) hgw (.int .i64 z.2)
    rcases hW with rfl | rfl
    · exact h.drew
    · exact h
set_option maxRecDepth 100000 in
set_option maxHeartbeats 800000 in
theorem plan_a1 (L : List Ent) (a : Option Addr) (cap : Nat) (begin last : Int × Int) (w : World) (hL : EntsAt w (.slice a L.length cap) L) (hn : L.length ≤ 1000000) (hlc : L.length ≤ cap) (hA : findB L last = true) :
    Calls Tryz.prog 109 #[.slice a L.length cap, zxidV begin, zxidV last] w fun e w' => PlanSaid (1, last, L.drop (findN L last)) w e w' := by
  have hfl := findN_le L last
  have HF := Lib.hid (fun w2 h2 => find_any L a cap last w2 h2 (by omega))
  unfold zxidV at HF
  have hal : ∀ o1 o2 o3, Below w.heap.size w (((w.alloc o1).alloc o2).alloc o3) := fun o1 o2 o3 => (((Below.refl _ w).alloc (Nat.le_refl _) _).alloc (by simp) _).alloc (by simp; omega) _
  have HAL := Lib.hid hal
  clear hal
  have H3 := Lib.hid (three_new w (.cells #[.int .i64 begin.1, .int .i64 begin.2] 41) (.cells #[.int .i64 last.1, .int .i64 last.2] 41) (.cells #[.int .i64 0, .int .i64 0] 41))
  unfold zxidV
  rw [hA] at HF
  generalize findN L last = n at *
  have hsl : ∀ w, (Instr.sliceAt 27 (.slice a L.length cap) (some (.int .i64 (n : Int))) none none).run Tryz.prog w = .ok (.slice (slA a n cap) (L.length - n) (cap - n)) w := by
    intro w
    have h1 : (sizeOf (Tryz.prog.elem 27)).run Tryz.prog w = .ok 3 w := by kernel_rfl
    rw [run_sliceAt_slice w _ _ _ _ _ (by kernel_rfl), run_slice_l w 27 a L.length cap (by kernel_rfl) .i64 n (by omega) (by omega), h1]
    simp [sliced, slA]
  have HO := Lib.hid (fun w2 (h : Below w.heap.size w w2) => hL.grew h)
  go_enter Tryz.func109, Tryz.ntmps109
  go_wp2_with (fail)
  refine (HF.out _ (hL.grew (HAL.out _ _ _))).mono ?_
  rintro e w2 ⟨rfl, hb2⟩
  have hb2w := (HAL.out _ _ _).trans (hb2.mono (by simp; omega))
  go_wp2_with (fail)
  refine (clone_opt L (slA a n cap) n (cap - n) w2 (ents_drop (HO.out w2 hb2w) n (cap - n) hfl hlc) hn).mono ?_
  rintro e w3 ⟨v, rfl, hown, hb3⟩
  obtain ⟨g0, g1, g2⟩ := H3.out
  have k0 := Grew.at_ hb3 (Grew.at_ hb2 g0)
  have k1 := Grew.at_ hb3 (Grew.at_ hb2 g1)
  have k2 := Grew.at_ hb3 (Grew.at_ hb2 g2)
  have m0 : w3.cell? ⟨w.heap.size, 0, none⟩ = some (.int .i64 begin.1) := by rw [Lib.cell_of_heap k0]; rfl
  have m1 : w3.cell? ⟨w.heap.size, 1, none⟩ = some (.int .i64 begin.2) := by rw [Lib.cell_of_heap k0]; rfl
  have l0 : w3.cell? ⟨w.heap.size + 1, 0, none⟩ = some (.int .i64 last.1) := by rw [Lib.cell_of_heap k1]; rfl
  have l1 : w3.cell? ⟨w.heap.size + 1, 1, none⟩ = some (.int .i64 last.2) := by rw [Lib.cell_of_heap k1]; rfl
  have r0 : w3.cell? ⟨w.heap.size + 1 + 1, 0, none⟩ = some (.int .i64 0) := by rw [Lib.cell_of_heap k2]; rfl
  have r1 : w3.cell? ⟨w.heap.size + 1 + 1, 1, none⟩ = some (.int .i64 0) := by rw [Lib.cell_of_heap k2]; rfl
  have rf0 : w3.frozen? ⟨w.heap.size + 1 + 1, 0, none⟩ = false := Lib.frozen_of_heap k2 0
  have rf1 : w3.frozen? ⟨w.heap.size + 1 + 1, 1, none⟩ = false := Lib.frozen_of_heap k2 1
  have K0 := Lib.hid k0
  have K2 := Lib.hid k2
  have hz2 : w.heap.size + 1 + 1 < w2.heap.size := by have := hb2.size; simp at this; omega
  clear k0 k1 k2 g0 g1 g2 H3 HF HAL hsl hb2
  go_wp2
  go_region
  go_wp2
  exact plan_end (w.heap.size + 1 + 1) w w2 w3 (L.drop n) 1 (L.length - n) v last _ _ _ (by omega) (by omega) hown (by simp) hb2w hb3 K2.out rfl rfl rfl _ (by first | exact .inl rfl | exact .inr rfl)
set_option maxRecDepth 100000 in
set_option maxHeartbeats 800000 in
theorem plan_a2 (L : List Ent) (a : Option Addr) (cap : Nat) (begin last : Int × Int) (w : World) (hL : EntsAt w (.slice a L.length cap) L) (hn : L.length ≤ 1000000) (hlc : L.length ≤ cap) (hA : findB L last = false) (b0 : (last.1 == begin.1) = true) (b1 : (last.2 == begin.2) = true) :
    Calls Tryz.prog 109 #[.slice a L.length cap, zxidV begin, zxidV last] w fun e w' => PlanSaid (1, last, L.drop (findN L last)) w e w' := by
  have hfl := findN_le L last
  have HF := Lib.hid (fun w2 h2 => find_any L a cap last w2 h2 (by omega))
  unfold zxidV at HF
  have hal : ∀ o1 o2 o3, Below w.heap.size w (((w.alloc o1).alloc o2).alloc o3) := fun o1 o2 o3 => (((Below.refl _ w).alloc (Nat.le_refl _) _).alloc (by simp) _).alloc (by simp; omega) _
  have HAL := Lib.hid hal
  clear hal
  have H3 := Lib.hid (three_new w (.cells #[.int .i64 begin.1, .int .i64 begin.2] 41) (.cells #[.int .i64 last.1, .int .i64 last.2] 41) (.cells #[.int .i64 0, .int .i64 0] 41))
  unfold zxidV
  rw [hA] at HF
  generalize findN L last = n at *
  have hsl : ∀ w, (Instr.sliceAt 27 (.slice a L.length cap) (some (.int .i64 (n : Int))) none none).run Tryz.prog w = .ok (.slice (slA a n cap) (L.length - n) (cap - n)) w := by
    intro w
    have h1 : (sizeOf (Tryz.prog.elem 27)).run Tryz.prog w = .ok 3 w := by kernel_rfl
    rw [run_sliceAt_slice w _ _ _ _ _ (by kernel_rfl), run_slice_l w 27 a L.length cap (by kernel_rfl) .i64 n (by omega) (by omega), h1]
    simp [sliced, slA]
  have HO := Lib.hid (fun w2 (h : Below w.heap.size w w2) => hL.grew h)
  go_enter Tryz.func109, Tryz.ntmps109
  go_wp2_with (fail)
  refine (HF.out _ (hL.grew (HAL.out _ _ _))).mono ?_
  rintro e w2 ⟨rfl, hb2⟩
  have hb2w := (HAL.out _ _ _).trans (hb2.mono (by simp; omega))
  go_wp2_with (fail)
  refine (clone_opt L (slA a n cap) n (cap - n) w2 (ents_drop (HO.out w2 hb2w) n (cap - n) hfl hlc) hn).mono ?_
  rintro e w3 ⟨v, rfl, hown, hb3⟩
  obtain ⟨g0, g1, g2⟩ := H3.out
  have k0 := Grew.at_ hb3 (Grew.at_ hb2 g0)
  have k1 := Grew.at_ hb3 (Grew.at_ hb2 g1)
  have k2 := Grew.at_ hb3 (Grew.at_ hb2 g2)
  have m0 : w3.cell? ⟨w.heap.size, 0, none⟩ = some (.int .i64 begin.1) := by rw [Lib.cell_of_heap k0]; rfl
  have m1 : w3.cell? ⟨w.heap.size, 1, none⟩ = some (.int .i64 begin.2) := by rw [Lib.cell_of_heap k0]; rfl
  have l0 : w3.cell? ⟨w.heap.size + 1, 0, none⟩ = some (.int .i64 last.1) := by rw [Lib.cell_of_heap k1]; rfl
  have l1 : w3.cell? ⟨w.heap.size + 1, 1, none⟩ = some (.int .i64 last.2) := by rw [Lib.cell_of_heap k1]; rfl
  have r0 : w3.cell? ⟨w.heap.size + 1 + 1, 0, none⟩ = some (.int .i64 0) := by rw [Lib.cell_of_heap k2]; rfl
  have r1 : w3.cell? ⟨w.heap.size + 1 + 1, 1, none⟩ = some (.int .i64 0) := by rw [Lib.cell_of_heap k2]; rfl
  have rf0 : w3.frozen? ⟨w.heap.size + 1 + 1, 0, none⟩ = false := Lib.frozen_of_heap k2 0
  have rf1 : w3.frozen? ⟨w.heap.size + 1 + 1, 1, none⟩ = false := Lib.frozen_of_heap k2 1
  have K0 := Lib.hid k0
  have K2 := Lib.hid k2
  have hz2 : w.heap.size + 1 + 1 < w2.heap.size := by have := hb2.size; simp at this; omega
  clear k0 k1 k2 g0 g1 g2 H3 HF HAL hsl hb2
  go_wp2
  go_region
  go_wp2
  exact plan_end (w.heap.size + 1 + 1) w w2 w3 (L.drop n) 1 (L.length - n) v last _ _ _ (by omega) (by omega) hown (by simp) hb2w hb3 K2.out rfl rfl rfl _ (by first | exact .inl rfl | exact .inr rfl)
set_option maxRecDepth 100000 in
set_option maxHeartbeats 800000 in
theorem plan_b (L : List Ent) (a : Option Addr) (cap : Nat) (begin last : Int × Int) (w : World) (hL : EntsAt w (.slice a L.length cap) L) (hn : L.length ≤ 1000000) (hlc : L.length ≤ cap) (hA : findB L last = false) (hne : ((last.1 == begin.1) = true ∧ (last.2 == begin.2) = false) ∨ (last.1 == begin.1) = false) (hl : lessZ last begin = true) :
    Calls Tryz.prog 109 #[.slice a L.length cap, zxidV begin, zxidV last] w fun e w' => PlanSaid (3, begin, L) w e w' := by
  have hfl := findN_le L last
  have HF := Lib.hid (fun w2 h2 => find_any L a cap last w2 h2 (by omega))
  unfold zxidV at HF
  have hal : ∀ o1 o2 o3, Below w.heap.size w (((w.alloc o1).alloc o2).alloc o3) := fun o1 o2 o3 => (((Below.refl _ w).alloc (Nat.le_refl _) _).alloc (by simp) _).alloc (by simp; omega) _
  have HAL := Lib.hid hal
  clear hal
  have H3 := Lib.hid (three_new w (.cells #[.int .i64 begin.1, .int .i64 begin.2] 41) (.cells #[.int .i64 last.1, .int .i64 last.2] 41) (.cells #[.int .i64 0, .int .i64 0] 41))
  unfold zxidV
  rw [hA] at HF
  generalize findN L last = n at *
  have hsl : ∀ w, (Instr.sliceAt 27 (.slice a L.length cap) (some (.int .i64 (n : Int))) none none).run Tryz.prog w = .ok (.slice (slA a n cap) (L.length - n) (cap - n)) w := by
    intro w
    have h1 : (sizeOf (Tryz.prog.elem 27)).run Tryz.prog w = .ok 3 w := by kernel_rfl
    rw [run_sliceAt_slice w _ _ _ _ _ (by kernel_rfl), run_slice_l w 27 a L.length cap (by kernel_rfl) .i64 n (by omega) (by omega), h1]
    simp [sliced, slA]
  have HO := Lib.hid (fun w2 (h : Below w.heap.size w w2) => hL.grew h)
  go_enter Tryz.func109, Tryz.ntmps109
  go_wp2_with (fail)
  refine (HF.out _ (hL.grew (HAL.out _ _ _))).mono ?_
  rintro e w2 ⟨rfl, hb2⟩
  have hb2w := (HAL.out _ _ _).trans (hb2.mono (by simp; omega))
  go_wp2_with (fail)
  refine (clone_opt L (slA a n cap) n (cap - n) w2 (ents_drop (HO.out w2 hb2w) n (cap - n) hfl hlc) hn).mono ?_
  rintro e w3 ⟨v, rfl, hown, hb3⟩
  obtain ⟨g0, g1, g2⟩ := H3.out
  have k0 := Grew.at_ hb3 (Grew.at_ hb2 g0)
  have k1 := Grew.at_ hb3 (Grew.at_ hb2 g1)
  have k2 := Grew.at_ hb3 (Grew.at_ hb2 g2)
  have m0 : w3.cell? ⟨w.heap.size, 0, none⟩ = some (.int .i64 begin.1) := by rw [Lib.cell_of_heap k0]; rfl
  have m1 : w3.cell? ⟨w.heap.size, 1, none⟩ = some (.int .i64 begin.2) := by rw [Lib.cell_of_heap k0]; rfl
  have l0 : w3.cell? ⟨w.heap.size + 1, 0, none⟩ = some (.int .i64 last.1) := by rw [Lib.cell_of_heap k1]; rfl
  have l1 : w3.cell? ⟨w.heap.size + 1, 1, none⟩ = some (.int .i64 last.2) := by rw [Lib.cell_of_heap k1]; rfl
  have r0 : w3.cell? ⟨w.heap.size + 1 + 1, 0, none⟩ = some (.int .i64 0) := by rw [Lib.cell_of_heap k2]; rfl
  have r1 : w3.cell? ⟨w.heap.size + 1 + 1, 1, none⟩ = some (.int .i64 0) := by rw [Lib.cell_of_heap k2]; rfl
  have rf0 : w3.frozen? ⟨w.heap.size + 1 + 1, 0, none⟩ = false := Lib.frozen_of_heap k2 0
  have rf1 : w3.frozen? ⟨w.heap.size + 1 + 1, 1, none⟩ = false := Lib.frozen_of_heap k2 1
  have K0 := Lib.hid k0
  have K2 := Lib.hid k2
  have hz2 : w.heap.size + 1 + 1 < w2.heap.size := by have := hb2.size; simp at this; omega
  clear k0 k1 k2 g0 g1 g2 H3 HF HAL hsl hb2
  have HLs := Lib.hid (fun w2 => less_any last begin w2)
  unfold zxidV at HLs
  rw [hl] at HLs
  rcases hne with ⟨b0, b1⟩ | b0
  all_goals
    as_aux_lemma =>
    go_wp2_with (fail)
    refine (HLs.out _).mono ?_
    rintro e w4 ⟨rfl, hb4⟩
    have B4 : Below w.heap.size w w4 := hb2w.trans ((hb3.trans (hb4.mono hb3.size)).mono hb2w.size)
    have K0 := Lib.hid (Grew.at_ hb4 K0.out)
    have K2 := Lib.hid (Grew.at_ hb4 K2.out)
    have hz4 : w.heap.size + 1 + 1 < w4.heap.size := by have := hb3.size; have := hb4.size; omega
    have m0 : w4.cell? ⟨w.heap.size, 0, none⟩ = some (.int .i64 begin.1) := by rw [Lib.cell_of_heap K0.out]; rfl
    have m1 : w4.cell? ⟨w.heap.size, 1, none⟩ = some (.int .i64 begin.2) := by rw [Lib.cell_of_heap K0.out]; rfl
    clear r0 r1 rf0 rf1 l0 l1
    go_wp2_with (fail)
    go_region_with (first | (go_at_call 27; (with_reducible refine (clone_full L a cap _ (HO.out _ B4.drew) hn).mono ?_); rintro e w5 ⟨v5, rfl, hown5, hb5⟩; have k0 := Grew.at_ hb5 K0.out; have k2 := Grew.at_ hb5 K2.out; have m0 : w5.cell? ⟨w.heap.size, 0, none⟩ = some (.int .i64 begin.1) := (by rw [Lib.cell_of_heap k0]; rfl); have m1 : w5.cell? ⟨w.heap.size, 1, none⟩ = some (.int .i64 begin.2) := (by rw [Lib.cell_of_heap k0]; rfl); have r0 : w5.cell? ⟨w.heap.size + 1 + 1, 0, none⟩ = some (.int .i64 0) := (by rw [Lib.cell_of_heap k2]; rfl); have r1 : w5.cell? ⟨w.heap.size + 1 + 1, 1, none⟩ = some (.int .i64 0) := (by rw [Lib.cell_of_heap k2]; rfl); have rf0 : w5.frozen? ⟨w.heap.size + 1 + 1, 0, none⟩ = false := Lib.frozen_of_heap k2 0; have rf1 : w5.frozen? ⟨w.heap.size + 1 + 1, 1, none⟩ = false := Lib.frozen_of_heap k2 1; have K5 := Lib.hid k2; clear k0 k2))
    all_goals
      go_wp2
      exact plan_end (w.heap.size + 1 + 1) w w4.drew w5 L 3 L.length v5 begin _ _ _ (by exact hz4) (by omega) hown5 rfl B4.drew hb5 K5.out rfl rfl rfl _ (by first | exact .inl rfl | exact .inr rfl)
set_option maxRecDepth 100000 in
set_option maxHeartbeats 800000 in
theorem plan_c (L : List Ent) (a : Option Addr) (cap : Nat) (begin last : Int × Int) (w : World) (hL : EntsAt w (.slice a L.length cap) L) (hn : L.length ≤ 1000000) (hlc : L.length ≤ cap) (hA : findB L last = false) (hne : ((last.1 == begin.1) = true ∧ (last.2 == begin.2) = false) ∨ (last.1 == begin.1) = false) (hl : lessZ last begin = false) (h0 : findN L last = 0) :
    Calls Tryz.prog 109 #[.slice a L.length cap, zxidV begin, zxidV last] w fun e w' => PlanSaid (2, begin, L.drop (findN L last)) w e w' := by
  have hfl := findN_le L last
  have HF := Lib.hid (fun w2 h2 => find_any L a cap last w2 h2 (by omega))
  unfold zxidV at HF
  have hal : ∀ o1 o2 o3, Below w.heap.size w (((w.alloc o1).alloc o2).alloc o3) := fun o1 o2 o3 => (((Below.refl _ w).alloc (Nat.le_refl _) _).alloc (by simp) _).alloc (by simp; omega) _
  have HAL := Lib.hid hal
  clear hal
  have H3 := Lib.hid (three_new w (.cells #[.int .i64 begin.1, .int .i64 begin.2] 41) (.cells #[.int .i64 last.1, .int .i64 last.2] 41) (.cells #[.int .i64 0, .int .i64 0] 41))
  unfold zxidV
  rw [hA] at HF
  generalize findN L last = n at *
  have hn0 : n ≤ 0 := by omega
  clear h0
  have hsl : ∀ w, (Instr.sliceAt 27 (.slice a L.length cap) (some (.int .i64 (n : Int))) none none).run Tryz.prog w = .ok (.slice (slA a n cap) (L.length - n) (cap - n)) w := by
    intro w
    have h1 : (sizeOf (Tryz.prog.elem 27)).run Tryz.prog w = .ok 3 w := by kernel_rfl
    rw [run_sliceAt_slice w _ _ _ _ _ (by kernel_rfl), run_slice_l w 27 a L.length cap (by kernel_rfl) .i64 n (by omega) (by omega), h1]
    simp [sliced, slA]
  have HO := Lib.hid (fun w2 (h : Below w.heap.size w w2) => hL.grew h)
  go_enter Tryz.func109, Tryz.ntmps109
  go_wp2_with (fail)
  refine (HF.out _ (hL.grew (HAL.out _ _ _))).mono ?_
  rintro e w2 ⟨rfl, hb2⟩
  have hb2w := (HAL.out _ _ _).trans (hb2.mono (by simp; omega))
  go_wp2_with (fail)
  refine (clone_opt L (slA a n cap) n (cap - n) w2 (ents_drop (HO.out w2 hb2w) n (cap - n) hfl hlc) hn).mono ?_
  rintro e w3 ⟨v, rfl, hown, hb3⟩
  obtain ⟨g0, g1, g2⟩ := H3.out
  have k0 := Grew.at_ hb3 (Grew.at_ hb2 g0)
  have k1 := Grew.at_ hb3 (Grew.at_ hb2 g1)
  have k2 := Grew.at_ hb3 (Grew.at_ hb2 g2)
  have m0 : w3.cell? ⟨w.heap.size, 0, none⟩ = some (.int .i64 begin.1) := by rw [Lib.cell_of_heap k0]; rfl
  have m1 : w3.cell? ⟨w.heap.size, 1, none⟩ = some (.int .i64 begin.2) := by rw [Lib.cell_of_heap k0]; rfl
  have l0 : w3.cell? ⟨w.heap.size + 1, 0, none⟩ = some (.int .i64 last.1) := by rw [Lib.cell_of_heap k1]; rfl
  have l1 : w3.cell? ⟨w.heap.size + 1, 1, none⟩ = some (.int .i64 last.2) := by rw [Lib.cell_of_heap k1]; rfl
  have r0 : w3.cell? ⟨w.heap.size + 1 + 1, 0, none⟩ = some (.int .i64 0) := by rw [Lib.cell_of_heap k2]; rfl
  have r1 : w3.cell? ⟨w.heap.size + 1 + 1, 1, none⟩ = some (.int .i64 0) := by rw [Lib.cell_of_heap k2]; rfl
  have rf0 : w3.frozen? ⟨w.heap.size + 1 + 1, 0, none⟩ = false := Lib.frozen_of_heap k2 0
  have rf1 : w3.frozen? ⟨w.heap.size + 1 + 1, 1, none⟩ = false := Lib.frozen_of_heap k2 1
  have K0 := Lib.hid k0
  have K2 := Lib.hid k2
  have hz2 : w.heap.size + 1 + 1 < w2.heap.size := by have := hb2.size; simp at this; omega
  clear k0 k1 k2 g0 g1 g2 H3 HF HAL hsl hb2
  have HLs := Lib.hid (fun w2 => less_any last begin w2)
  unfold zxidV at HLs
  rw [hl] at HLs
  rcases hne with ⟨b0, b1⟩ | b0
  all_goals
    as_aux_lemma =>
    go_wp2_with (fail)
    refine (HLs.out _).mono ?_
    rintro e w4 ⟨rfl, hb4⟩
    have K0 := Lib.hid (Grew.at_ hb4 K0.out)
    have K2 := Lib.hid (Grew.at_ hb4 K2.out)
    have hown4 := own_below hown hb4
    have hb34 := hb3.trans (hb4.mono hb3.size)
    have m0 : w4.cell? ⟨w.heap.size, 0, none⟩ = some (.int .i64 begin.1) := by rw [Lib.cell_of_heap K0.out]; rfl
    have m1 : w4.cell? ⟨w.heap.size, 1, none⟩ = some (.int .i64 begin.2) := by rw [Lib.cell_of_heap K0.out]; rfl
    have r0 : w4.cell? ⟨w.heap.size + 1 + 1, 0, none⟩ = some (.int .i64 0) := by rw [Lib.cell_of_heap K2.out]; rfl
    have r1 : w4.cell? ⟨w.heap.size + 1 + 1, 1, none⟩ = some (.int .i64 0) := by rw [Lib.cell_of_heap K2.out]; rfl
    have rf0 : w4.frozen? ⟨w.heap.size + 1 + 1, 0, none⟩ = false := Lib.frozen_of_heap K2.out 0
    have rf1 : w4.frozen? ⟨w.heap.size + 1 + 1, 1, none⟩ = false := Lib.frozen_of_heap K2.out 1
    clear l0 l1 hb3 hb4 hown
    go_wp2
    go_region
    go_wp2
    exact plan_end (w.heap.size + 1 + 1) w w2 w4 (L.drop n) 2 (L.length - n) v begin _ _ _ (by omega) (by omega) hown4 (by simp) hb2w hb34 K2.out rfl rfl rfl _ (by first | exact .inl rfl | exact .inr rfl)
set_option maxRecDepth 100000 in
set_option maxHeartbeats 800000 in
theorem plan_d (L : List Ent) (a : Option Addr) (cap : Nat) (begin last : Int × Int) (w : World) (hL : EntsAt w (.slice a L.length cap) L) (hn : L.length ≤ 1000000) (hlc : L.length ≤ cap) (hA : findB L last = false) (hne : ((last.1 == begin.1) = true ∧ (last.2 == begin.2) = false) ∨ (last.1 == begin.1) = false) (hl : lessZ last begin = false) (k : Nat) (h0 : findN L last = k + 1) (x : Ent) (hx : L[k]? = some x) :
    Calls Tryz.prog 109 #[.slice a L.length cap, zxidV begin, zxidV last] w fun e w' => PlanSaid (2, x.z, L.drop (findN L last)) w e w' := by
  have hfl := findN_le L last
  have HF := Lib.hid (fun w2 h2 => find_any L a cap last w2 h2 (by omega))
  unfold zxidV at HF
  have hal : ∀ o1 o2 o3, Below w.heap.size w (((w.alloc o1).alloc o2).alloc o3) := fun o1 o2 o3 => (((Below.refl _ w).alloc (Nat.le_refl _) _).alloc (by simp) _).alloc (by simp; omega) _
  have HAL := Lib.hid hal
  clear hal
  have H3 := Lib.hid (three_new w (.cells #[.int .i64 begin.1, .int .i64 begin.2] 41) (.cells #[.int .i64 last.1, .int .i64 last.2] 41) (.cells #[.int .i64 0, .int .i64 0] 41))
  unfold zxidV
  rw [hA] at HF
  rw [h0] at HF hfl ⊢
  generalize hnk : k + 1 = n at *
  have hn1 : 1 ≤ n := by omega
  obtain rfl : k = n - 1 := by omega
  clear hnk h0
  have hsl : ∀ w, (Instr.sliceAt 27 (.slice a L.length cap) (some (.int .i64 (n : Int))) none none).run Tryz.prog w = .ok (.slice (slA a n cap) (L.length - n) (cap - n)) w := by
    intro w
    have h1 : (sizeOf (Tryz.prog.elem 27)).run Tryz.prog w = .ok 3 w := by kernel_rfl
    rw [run_sliceAt_slice w _ _ _ _ _ (by kernel_rfl), run_slice_l w 27 a L.length cap (by kernel_rfl) .i64 n (by omega) (by omega), h1]
    simp [sliced, slA]
  have HO := Lib.hid (fun w2 (h : Below w.heap.size w w2) => hL.grew h)
  go_enter Tryz.func109, Tryz.ntmps109
  go_wp2_with (fail)
  refine (HF.out _ (hL.grew (HAL.out _ _ _))).mono ?_
  rintro e w2 ⟨rfl, hb2⟩
  have hb2w := (HAL.out _ _ _).trans (hb2.mono (by simp; omega))
  go_wp2_with (fail)
  refine (clone_opt L (slA a n cap) n (cap - n) w2 (ents_drop (HO.out w2 hb2w) n (cap - n) hfl hlc) hn).mono ?_
  rintro e w3 ⟨v, rfl, hown, hb3⟩
  obtain ⟨g0, g1, g2⟩ := H3.out
  have k0 := Grew.at_ hb3 (Grew.at_ hb2 g0)
  have k1 := Grew.at_ hb3 (Grew.at_ hb2 g1)
  have k2 := Grew.at_ hb3 (Grew.at_ hb2 g2)
  have m0 : w3.cell? ⟨w.heap.size, 0, none⟩ = some (.int .i64 begin.1) := by rw [Lib.cell_of_heap k0]; rfl
  have m1 : w3.cell? ⟨w.heap.size, 1, none⟩ = some (.int .i64 begin.2) := by rw [Lib.cell_of_heap k0]; rfl
  have l0 : w3.cell? ⟨w.heap.size + 1, 0, none⟩ = some (.int .i64 last.1) := by rw [Lib.cell_of_heap k1]; rfl
  have l1 : w3.cell? ⟨w.heap.size + 1, 1, none⟩ = some (.int .i64 last.2) := by rw [Lib.cell_of_heap k1]; rfl
  have r0 : w3.cell? ⟨w.heap.size + 1 + 1, 0, none⟩ = some (.int .i64 0) := by rw [Lib.cell_of_heap k2]; rfl
  have r1 : w3.cell? ⟨w.heap.size + 1 + 1, 1, none⟩ = some (.int .i64 0) := by rw [Lib.cell_of_heap k2]; rfl
  have rf0 : w3.frozen? ⟨w.heap.size + 1 + 1, 0, none⟩ = false := Lib.frozen_of_heap k2 0
  have rf1 : w3.frozen? ⟨w.heap.size + 1 + 1, 1, none⟩ = false := Lib.frozen_of_heap k2 1
  have K0 := Lib.hid k0
  have K2 := Lib.hid k2
  have hz2 : w.heap.size + 1 + 1 < w2.heap.size := by have := hb2.size; simp at this; omega
  clear k0 k1 k2 g0 g1 g2 H3 HF HAL hsl hb2
  have HLs := Lib.hid (fun w2 => less_any last begin w2)
  unfold zxidV at HLs
  rw [hl] at HLs
  rcases hne with ⟨b0, b1⟩ | b0
  all_goals
    as_aux_lemma =>
    go_wp2_with (fail)
    refine (HLs.out _).mono ?_
    rintro e w4 ⟨rfl, hb4⟩
    have K0 := Lib.hid (Grew.at_ hb4 K0.out)
    have K2 := Lib.hid (Grew.at_ hb4 K2.out)
    have hown4 := own_below hown hb4
    have hb34 := hb3.trans (hb4.mono hb3.size)
    have m0 : w4.cell? ⟨w.heap.size, 0, none⟩ = some (.int .i64 begin.1) := by rw [Lib.cell_of_heap K0.out]; rfl
    have m1 : w4.cell? ⟨w.heap.size, 1, none⟩ = some (.int .i64 begin.2) := by rw [Lib.cell_of_heap K0.out]; rfl
    have r0 : w4.cell? ⟨w.heap.size + 1 + 1, 0, none⟩ = some (.int .i64 0) := by rw [Lib.cell_of_heap K2.out]; rfl
    have r1 : w4.cell? ⟨w.heap.size + 1 + 1, 1, none⟩ = some (.int .i64 0) := by rw [Lib.cell_of_heap K2.out]; rfl
    have rf0 : w4.frozen? ⟨w.heap.size + 1 + 1, 0, none⟩ = false := Lib.frozen_of_heap K2.out 0
    have rf1 : w4.frozen? ⟨w.heap.size + 1 + 1, 1, none⟩ = false := Lib.frozen_of_heap K2.out 1
    clear l0 l1 hb3 hb4 hown
    obtain ⟨hk, rfl⟩ := List.getElem?_eq_some_iff.1 hx
    have hb4w : Below w.heap.size w w4 := hb2w.trans (hb34.mono hb2w.size)
    obtain ⟨bb, off, rfl, hcl⟩ := ents_get (HO.out w4 hb4w) (n - 1) hk
    obtain ⟨e0, e1, e2⟩ := hcl
    clear hx
    go_wp2
    go_region
    go_wp2
    exact plan_end (w.heap.size + 1 + 1) w w2 w4 (L.drop n) 2 (L.length - n) v L[n - 1].z _ _ _ (by omega) (by omega) hown4 (by simp) hb2w hb34 K2.out rfl rfl rfl _ (by first | exact .inl rfl | exact .inr rfl)
/-- THE CONTRACT OF Plan. -/
theorem plan_any (L : List Ent) (a : Option Addr) (cap : Nat) (begin last : Int × Int) (w : World) (hL : EntsAt w (.slice a L.length cap) L) (hn : L.length ≤ 1000000) (hlc : L.length ≤ cap) :
    Calls Tryz.prog 109 #[.slice a L.length cap, zxidV begin, zxidV last] w fun e w' => PlanSaid (planP L begin last) w e w' := by
  unfold planP
  by_cases hA : findB L last = true
  · rw [if_pos (.inl hA)]
    exact plan_a1 L a cap begin last w hL hn hlc hA
  · rw [Bool.not_eq_true] at hA
    rcases zx_cases last begin with ⟨h, b0, b1⟩ | h
    · rw [if_pos (.inr h)]
      exact plan_a2 L a cap begin last w hL hn hlc hA b0 b1
    · have hne : ((last.1 == begin.1) = true ∧ (last.2 == begin.2) = false) ∨ (last.1 == begin.1) = false := by
        rcases h with h | h
        · exact .inl h.2
        · exact .inr h.2
      have hneq : last ≠ begin := by
        rcases h with h | h
        · exact h.1
        · exact h.1
      rw [if_neg (by rw [hA]; simp [hneq])]
      by_cases hl : lessZ last begin = true
      · rw [if_pos hl]
        exact plan_b L a cap begin last w hL hn hlc hA hne hl
      · rw [if_neg hl]
        rw [Bool.not_eq_true] at hl
        by_cases h0 : findN L last = 0
        · rw [if_pos h0]
          exact plan_c L a cap begin last w hL hn hlc hA hne hl h0
        · rw [if_neg h0]
          obtain ⟨k, hk⟩ : ∃ k, findN L last = k + 1 := ⟨findN L last - 1, by omega⟩
          have hfl := findN_le L last
          have hi : k < L.length := by omega
          have e : L.getD (findN L last - 1) default = L[k] := by rw [hk]; simp [List.getD, hi]
          rw [e]
          exact plan_d L a cap begin last w hL hn hlc hA hne hl k hk L[k] (by simp [hi])
end Go.Proofs.YtkidhbflojlmoaaGreat
