/- A row of entries that a call owns. Conditions: as each theorem says. -/
import Derived.Test.YtlbacddgjagcbaaValS
import Derived.Lib.SliceRun
namespace Go.Proofs.Ytlbacddgjagcbaa
open Go.RowKit

theorem infoEnt : (Try.prog.info? 69).map (fun i => (i.zero, i.size, i.bytes)) = some (some (.agg #[.int .i64 0, .int .i64 0, .string ⟨#[]⟩]), 3, 32) := by kernel_rfl
theorem infoREnt : (Try.prog.info? 72).map (fun i => (i.zero, i.size, i.bytes)) = some (some (.agg #[.int .i64 0, .int .i64 0, .string ⟨#[]⟩]), 3, 32) := by kernel_rfl
def entCells (x : Ent) : List Value := [.int .i64 x.e, .int .i64 x.c, .string (bs x.b)]
def entRow (L : List Ent) : List Value := L.flatMap entCells
theorem entRow_length (L : List Ent) : (entRow L).length = L.length * 3 := by
  induction L with
  | nil => rfl
  | cons a L ih => simp only [entRow, List.flatMap_cons, List.length_append, List.length_cons] at ih ⊢; simp only [entCells, List.length_cons, List.length_nil]; omega
theorem entRow_get (L : List Ent) : ∀ (i j : Nat) (hi : i < L.length), j < 3 → (entRow L)[i * 3 + j]? = (entCells L[i])[j]? := by
  induction L with
  | nil => intro i j hi; simp at hi
  | cons a L ih =>
    intro i j hi hj
    unfold entRow
    rw [List.flatMap_cons]
    cases i with
    | zero =>
      rw [List.getElem?_append_left (by simp [entCells]; omega)]
      simp
    | succ i =>
      rw [List.getElem?_append_right (by simp [entCells]; omega)]
      have := ih i j (by simpa using hi) hj
      unfold entRow at this
      simp only [List.getElem_cons_succ]
      rw [← this]
      congr 1
      simp [entCells]; omega
theorem own_ents {w : World} {base n : Nat} {T : TypeId} {v : Value} {L : List Ent} (h : w.ownsRow base T 3 v n (entRow L)) (hk : ∀ x ∈ L, x.ok) : n = L.length ∧ ∃ a cap, v = .slice a L.length cap ∧ EntsIn w a cap L := by
  have hl := h.1
  rw [entRow_length] at hl
  obtain rfl : n = L.length := by omega
  refine ⟨rfl, ?_⟩
  rcases h.2 with ⟨hv, h0⟩ | ⟨g, cap, cur, hv, _, hg, hn, hm, hs, hx⟩
  · exact ⟨none, 0, by rw [hv, h0], by omega, by simp, ⟨none, 0, rfl, fun i hi => by omega⟩, hk⟩
  · refine ⟨some ⟨g, 0, none⟩, cap, hv, hn, hm, ⟨some ⟨g, 0, none⟩, cap, rfl, fun i hi => ⟨g, 0, rfl, ?_⟩⟩, hk⟩
    have key : ∀ j, j < 3 → w.cell? ⟨g, 0 + i * 3 + j, none⟩ = (entCells L[i])[j]? := by
      intro j hj
      rw [Lib.cell_of_heap hg, ← entRow_get L i j hi hj, ← hx, List.getElem?_take, if_pos (by omega), Array.getElem?_toList, Nat.zero_add]
    exact ⟨by simpa [entCells] using key 0 (by omega), by simpa [entCells] using key 1 (by omega), by simpa [entCells] using key 2 (by omega)⟩
theorem entRow_one (L : List Ent) : ∀ u ∈ entRow L, u.oneCell' = true := by
  intro u hu
  obtain ⟨x, _, hx⟩ := List.mem_flatMap.1 hu
  simp only [entCells, List.mem_cons, List.not_mem_nil, or_false] at hx
  rcases hx with rfl | rfl | rfl <;> rfl
theorem entRow_append (A B : List Ent) : entRow (A ++ B) = entRow A ++ entRow B := by unfold entRow; rw [List.flatMap_append]
theorem take_ent (L : List Ent) (i : Nat) (h : i < L.length) : entRow (L.take (i + 1)) = entRow (L.take i) ++ entRow [L[i]] := by
  rw [List.take_succ_eq_append_getElem h, entRow_append]
end Go.Proofs.Ytlbacddgjagcbaa
