/- The walks of slices.Clone at entries, and of row. Conditions: as each theorem says. -/
import Derived.Test.YtkidhbflojlmoaaGreatHistR
import Derived.Lib.SliceRun
namespace Go.Proofs.YtkidhbflojlmoaaGreat
open Go.RowKit

theorem infoEnt : (Tryz.prog.info? 72).map (fun i => (i.zero, i.size, i.bytes)) = some (some (.agg #[.int .i64 0, .int .i64 0, .string ⟨#[]⟩]), 3, 32) := by kernel_rfl
def entCells (x : Ent) : List Value := [.int .i64 x.e, .int .i64 x.c, .string (bs x.b)]
def entRow (L : List Ent) : List Value := L.flatMap entCells
theorem entRow_length (L : List Ent) : (entRow L).length = L.length * 3 := by
  induction L with
  | nil => rfl
  | cons a L ih => simp only [entRow, List.flatMap_cons, List.length_append, List.length_cons] at ih ⊢; simp only [entCells, List.length_cons, List.length_nil]; omega
theorem entRow_get (L : List Ent) : ∀ (i j : Nat) (hi : i < L.length), j < 3 → (entRow L)[i * 3 + j]? = (entCells L[i])[j]? := by
  induction L with
  | nil => intro i j hi; simp at hi
  | cons a L ih =>
    intro i j hi hj
    unfold entRow
    rw [List.flatMap_cons]
    cases i with
    | zero =>
      rw [List.getElem?_append_left (by simp [entCells]; omega)]
      simp
    | succ i =>
      rw [List.getElem?_append_right (by simp [entCells]; omega)]
      have := ih i j (by simpa using hi) hj
      unfold entRow at this
      simp only [List.getElem_cons_succ]
      rw [← this]
      congr 1
      simp [entCells]; omega
theorem ents_own {w : World} {base : Nat} {v : Value} {L : List Ent} (h : w.ownsRow base 72 3 v L.length (entRow L)) : EntsAt w v L := by
  rcases h.2 with ⟨hv, h0⟩ | ⟨g, cap, cur, hv, _, hg, hn, hm, hs, hx⟩
  · exact ⟨none, 0, by rw [hv, h0], fun i hi => by omega⟩
  · refine ⟨some ⟨g, 0, none⟩, cap, hv, fun i hi => ⟨g, 0, rfl, ?_⟩⟩
    have key : ∀ j, j < 3 → w.cell? ⟨g, 0 + i * 3 + j, none⟩ = (entCells L[i])[j]? := by
      intro j hj
      rw [Lib.cell_of_heap hg, ← entRow_get L i j hi hj, ← hx, List.getElem?_take, if_pos (by omega), Array.getElem?_toList, Nat.zero_add]
    exact ⟨by simpa [entCells] using key 0 (by omega), by simpa [entCells] using key 1 (by omega), by simpa [entCells] using key 2 (by omega)⟩

theorem entRow_one (L : List Ent) : ∀ u ∈ entRow L, u.oneCell' = true := by
  intro u hu
  obtain ⟨x, _, hx⟩ := List.mem_flatMap.1 hu
  simp only [entCells, List.mem_cons, List.not_mem_nil, or_false] at hx
  rcases hx with rfl | rfl | rfl <;> rfl
theorem ents_cells {w : World} {bb off n cap : Nat} {L : List Ent} (h : EntsAt w (.slice (some ⟨bb, off, none⟩) n cap) L) (j : Nat) (u : Value) (hj : (entRow L)[j]? = some u) : w.cell? ((⟨bb, off, none⟩ : Addr).add j) = some u := by
  have hlt : j < (entRow L).length := by
    rcases Nat.lt_or_ge j (entRow L).length with h' | h'
    · exact h'
    · rw [List.getElem?_eq_none h'] at hj; simp at hj
  rw [entRow_length] at hlt
  have hi : j / 3 < L.length := by omega
  have hg := entRow_get L (j / 3) (j % 3) hi (by omega)
  rw [show j / 3 * 3 + j % 3 = j by omega, hj] at hg
  obtain ⟨b', off', e, c0, c1, c2⟩ := ents_get h (j / 3) hi
  simp only [Option.some.injEq, Addr.mk.injEq] at e
  obtain ⟨rfl, rfl, _⟩ := e
  have ha : (⟨bb, off, none⟩ : Addr).add j = ⟨bb, off + j, none⟩ := by unfold Addr.add; split <;> simp_all
  rw [ha]
  have hj3 : j % 3 = 0 ∨ j % 3 = 1 ∨ j % 3 = 2 := by omega
  rcases hj3 with h3 | h3 | h3
  · rw [h3] at hg; simp [entCells] at hg; rw [show off + j = off + j / 3 * 3 by omega, c0, hg]
  · rw [h3] at hg; simp [entCells] at hg; rw [show off + j = off + j / 3 * 3 + 1 by omega, c1, hg]
  · rw [h3] at hg; simp [entCells] at hg; rw [show off + j = off + j / 3 * 3 + 2 by omega, c2, hg]
set_option maxRecDepth 100000 in
set_option maxHeartbeats 400000 in
theorem clone_any (L : List Ent) (bb off cap : Nat) (w : World) (hL : EntsAt w (.slice (some ⟨bb, off, none⟩) L.length cap) L) (hn : L.length ≤ 1000000) :
    Calls Tryz.prog 27 #[.slice (some ⟨bb, off, none⟩) L.length cap] w fun e w' => ∃ v, e = .returned v ∧ w'.ownsRow w.heap.size 72 3 v L.length (entRow L) ∧ Below w.heap.size w w' := by
  obtain ⟨i5, hi, hz0, hz1, hz2⟩ := info_parts infoEnt
  have q22 : ∀ (w : World) (a : Option Addr) (n c n' c' : Nat), (binOp .eql 27 (.slice a n c) (.slice none n' c')).run Tryz.prog w = .ok (.bool a.isNone) w := fun w a n c n' c' => Lib.run_eql_slice_nil w _ _ a n c n' c' Tryz.underlying27
  go_enter Tryz.func27, Tryz.ntmps27
  go_wp2_with (at_builtin; refine wpList_append_own _ rfl _ _ 27 rfl w.heap.size 72 i5 (.agg #[.int .i64 0, .int .i64 0, .string ⟨#[]⟩]) 3 32 Tryz.underlying27 hi hz0 hz1 hz2 rfl (by decide) _ _ _ rfl (World.ownsRow_made w #[] 0 (Nat.le_refl _) (Nat.zero_le _) rfl) ⟨bb, off, none⟩ L.length cap (entRow L) rfl (entRow_length L) (fun j u hj => ents_cells (hL.grew ((Below.refl _ w).alloc (Nat.le_refl _) _)) j u hj) (entRow_one L) (by unfold maxLen; omega) (by omega) (by simp) ?_)
  intro v' w1 hown hgrow hnil
  go_wp2
  go_ret
  refine ⟨v', rfl, by simpa using hown, ?_⟩
  exact ((Below.refl _ w).alloc (Nat.le_refl _) _).grown hgrow (by simp) (by intro k hk; simp [Value.ownBlock] at hk; omega)

set_option maxRecDepth 100000 in
theorem clone_nil (c : Nat) (w : World) : Calls Tryz.prog 27 #[.slice none 0 c] w fun e w' => e = .returned (.slice none 0 0) ∧ w' = w := by
  have q22 : ∀ (w : World) (a : Option Addr) (n c n' c' : Nat), (binOp .eql 27 (.slice a n c) (.slice none n' c')).run Tryz.prog w = .ok (.bool a.isNone) w := fun w a n c n' c' => Lib.run_eql_slice_nil w _ _ a n c n' c' Tryz.underlying27
  go_enter Tryz.func27, Tryz.ntmps27
  go_wp2
  go_ret
  exact ⟨rfl, rfl⟩
set_option maxRecDepth 100000 in
set_option maxHeartbeats 400000 in
theorem clone_none (a : Addr) (c : Nat) (w : World) : Calls Tryz.prog 27 #[.slice (some a) 0 c] w fun e w' => ∃ v, e = .returned v ∧ w'.ownsRow w.heap.size 72 3 v 0 (entRow []) ∧ Below w.heap.size w w' := by
  obtain ⟨i5, hi, hz0, hz1, hz2⟩ := info_parts infoEnt
  have q22 : ∀ (w : World) (a : Option Addr) (n c n' c' : Nat), (binOp .eql 27 (.slice a n c) (.slice none n' c')).run Tryz.prog w = .ok (.bool a.isNone) w := fun w a n c n' c' => Lib.run_eql_slice_nil w _ _ a n c n' c' Tryz.underlying27
  go_enter Tryz.func27, Tryz.ntmps27
  go_wp2_with (at_builtin; refine wpList_append_own _ rfl _ _ 27 rfl w.heap.size 72 i5 (.agg #[.int .i64 0, .int .i64 0, .string ⟨#[]⟩]) 3 32 Tryz.underlying27 hi hz0 hz1 hz2 rfl (by decide) _ _ _ rfl (World.ownsRow_made w #[] 0 (Nat.le_refl _) (Nat.zero_le _) rfl) a 0 c (entRow []) rfl rfl (fun j u hj => by simp [entRow] at hj) (entRow_one []) (by unfold maxLen; omega) (by omega) (by simp) ?_)
  intro v' w1 hown hgrow hnil
  go_wp2
  go_ret
  refine ⟨v', rfl, by simpa using hown, ?_⟩
  exact ((Below.refl _ w).alloc (Nat.le_refl _) _).grown hgrow (by simp) (by intro k hk; simp [Value.ownBlock] at hk; omega)
def rowN (n : Nat) : List Ent := (List.range n).map fun (i : Nat) => ⟨1, (i : Int) + 1, []⟩
theorem rowN_len (n : Nat) : (rowN n).length = n := by simp [rowN]
theorem rowN_step (n : Nat) : rowN (n + 1) = rowN n ++ [⟨1, (n : Int) + 1, []⟩] := by unfold rowN; rw [List.range_succ, List.map_append]; rfl
theorem entRow_append (A B : List Ent) : entRow (A ++ B) = entRow A ++ entRow B := by unfold entRow; rw [List.flatMap_append]
end Go.Proofs.YtkidhbflojlmoaaGreat
