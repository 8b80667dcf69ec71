/- A row of generations that is rewritten in place; the walks of what Compact hands to slices.DeleteFunc. Conditions: as each theorem says. -/
import Derived.Test.YtnliapdhmjljiaaGenAt
import Derived.Lib.SliceRun
namespace Go.Proofs.Ytnliapdhmjljiaa
open Go.RowKit

def pairRow (L : List (Gn × Value)) : List Value := L.flatMap fun p => gnCells p.1 p.2
theorem pairRow_zip : ∀ (gs : List Gn) (ps : List Value), gnRow gs ps = pairRow (gs.zip ps) := by
  intro gs
  induction gs with
  | nil => intro ps; rfl
  | cons g gs ih =>
    intro ps
    cases ps with
    | nil => rfl
    | cons p ps =>
      show gnCells g p ++ gnRow gs ps = gnCells g p ++ pairRow (gs.zip ps)
      rw [ih ps]
theorem pairRow_length (L : List (Gn × Value)) : (pairRow L).length = L.length * 4 := by
  induction L with
  | nil => rfl
  | cons a L ih =>
    show (gnCells a.1 a.2 ++ pairRow L).length = _
    rw [List.length_append, ih]
    simp [gnCells]; omega
theorem pairRow_get (L : List (Gn × Value)) : ∀ (i j : Nat) (hi : i < L.length), j < 4 → (pairRow L)[i * 4 + j]? = (gnCells L[i].1 L[i].2)[j]? := by
  induction L with
  | nil => intro i j hi; simp at hi
  | cons a L ih =>
    intro i j hi hj
    unfold pairRow
    rw [List.flatMap_cons]
    cases i with
    | zero => rw [List.getElem?_append_left (by simp [gnCells]; omega)]; simp
    | succ i =>
      rw [List.getElem?_append_right (by simp [gnCells]; omega)]
      have := ih i j (by simpa using hi) hj
      unfold pairRow at this
      simp only [List.getElem_cons_succ]
      rw [← this]
      congr 1
      simp [gnCells]; omega
theorem pairRow_take (L : List (Gn × Value)) : ∀ k, pairRow (L.take k) = (pairRow L).take (k * 4) := by
  induction L with
  | nil => intro k; simp [pairRow]
  | cons a L ih =>
    intro k
    cases k with
    | zero => simp [pairRow]
    | succ k =>
      have := ih k
      unfold pairRow at this ⊢
      rw [List.take_succ_cons, List.flatMap_cons, List.flatMap_cons, this, show (k + 1) * 4 = (gnCells a.1 a.2).length + k * 4 by simp [gnCells]; omega, List.take_append, List.take_of_length_le (Nat.le_add_right _ _), Nat.add_sub_cancel_left]
/-- Block g holds the generations L at its front. -/
def RowIn (g cap : Nat) (L : List (Gn × Value)) (w : World) : Prop :=
  ∃ cur : Array Value, w.heap[g]? = some (.cells cur GnT (0, 0)) ∧ cur.size = cap * 4 ∧ L.length ≤ cap ∧ cap ≤ maxLen ∧ ∀ i j (hi : i < L.length), j < 4 → cur[i * 4 + j]? = (gnCells L[i].1 L[i].2)[j]?
section
variable {g cap : Nat} {L : List (Gn × Value)} {w w' : World}
theorem RowIn.kept (h : RowIn g cap L w) (hb : w'.heap[g]? = w.heap[g]?) : RowIn g cap L w' := by
  obtain ⟨cur, h1, h2⟩ := h
  exact ⟨cur, by rw [hb]; exact h1, h2⟩
theorem RowIn.lt (h : RowIn g cap L w) : g < w.heap.size := by obtain ⟨cur, h1, _⟩ := h; exact (Array.getElem?_eq_some_iff.1 h1).1
theorem RowIn.grew (h : RowIn g cap L w) (hb : Below w.heap.size w w') : RowIn g cap L w' := h.kept (hb.block g h.lt)
theorem RowIn.cell (h : RowIn g cap L w) (i : Nat) (hi : i < L.length) (j : Nat) (hj : j < 4) : w.cell? ⟨g, i * 4 + j, none⟩ = (gnCells L[i].1 L[i].2)[j]? ∧ w.frozen? ⟨g, i * 4 + j, none⟩ = false := by
  obtain ⟨cur, h1, _, _, _, h2⟩ := h
  exact ⟨by rw [Lib.cell_of_heap h1]; exact h2 i j hi hj, Lib.frozen_of_heap h1 _⟩
theorem RowIn.cells (h : RowIn g cap L w) (i : Nat) (hi : i < L.length) :
    w.cell? ⟨g, i * 4, none⟩ = some (.int .i64 L[i].1.cr) ∧ w.cell? ⟨g, i * 4 + 1, none⟩ = some (.int .i64 L[i].1.cut) ∧ w.cell? ⟨g, i * 4 + 2, none⟩ = some L[i].2 ∧ w.cell? ⟨g, i * 4 + 3, none⟩ = some (.int .i64 L[i].1.fin) :=
  ⟨(h.cell i hi 0 (by omega)).1, (h.cell i hi 1 (by omega)).1, (h.cell i hi 2 (by omega)).1, (h.cell i hi 3 (by omega)).1⟩
theorem RowIn.thaw (h : RowIn g cap L w) (k : Nat) : w.frozen? ⟨g, k, none⟩ = false := by obtain ⟨cur, h1, _⟩ := h; exact Lib.frozen_of_heap h1 _
/-- A generation stored over another one. -/
theorem RowIn.set (h : RowIn g cap L w) (i : Nat) (hi : i < L.length) (x : Gn) (v : Value) : RowIn g cap (L.set i (x, v)) ((((w.setCell ⟨g, i * 4, none⟩ (.int .i64 x.cr)).setCell ⟨g, i * 4 + 1, none⟩ (.int .i64 x.cut)).setCell ⟨g, i * 4 + 2, none⟩ v).setCell ⟨g, i * 4 + 3, none⟩ (.int .i64 x.fin)) := by
  obtain ⟨cur, h1, h2, h3, h4, h5⟩ := h
  have e1 := Lib.heap_setCell_same (i := i * 4) h1 (.int .i64 x.cr)
  have e2 := Lib.heap_setCell_same (i := i * 4 + 1) e1 (.int .i64 x.cut)
  have e3 := Lib.heap_setCell_same (i := i * 4 + 2) e2 v
  have e4 := Lib.heap_setCell_same (i := i * 4 + 3) e3 (.int .i64 x.fin)
  refine ⟨_, e4, by simpa using h2, by simpa using h3, h4, fun k j hk hj => ?_⟩
  simp only [List.length_set] at hk
  by_cases e : i = k
  · subst e
    simp only [List.getElem_set_self, gnCells]
    match j, hj with
    | 0, _ => rw [Array.getElem?_setIfInBounds_ne (by omega), Array.getElem?_setIfInBounds_ne (by omega), Array.getElem?_setIfInBounds_ne (by omega), Nat.add_zero, Array.getElem?_setIfInBounds_self_of_lt (by omega)]; rfl
    | 1, _ => rw [Array.getElem?_setIfInBounds_ne (by omega), Array.getElem?_setIfInBounds_ne (by omega), Array.getElem?_setIfInBounds_self_of_lt (by simp; omega)]; rfl
    | 2, _ => rw [Array.getElem?_setIfInBounds_ne (by omega), Array.getElem?_setIfInBounds_self_of_lt (by simp; omega)]; rfl
    | 3, _ => rw [Array.getElem?_setIfInBounds_self_of_lt (by simp; omega)]; rfl
  · rw [List.getElem_set_ne e, Array.getElem?_setIfInBounds_ne (by omega), Array.getElem?_setIfInBounds_ne (by omega), Array.getElem?_setIfInBounds_ne (by omega), Array.getElem?_setIfInBounds_ne (by omega)]
    exact h5 k j hk hj
theorem RowIn.take (h : RowIn g cap L w) (k : Nat) : RowIn g cap (L.take k) w := by
  obtain ⟨cur, h1, h2, h3, h4, h5⟩ := h
  refine ⟨cur, h1, h2, by rw [List.length_take]; omega, h4, fun i j hi hj => ?_⟩
  rw [List.length_take] at hi
  rw [List.getElem_take]
  exact h5 i j (by omega) hj
theorem RowIn.own (h : RowIn g cap L w) : w.ownsRow 0 GnT 4 (.slice (some ⟨g, 0, none⟩) L.length cap) L.length (pairRow L) := by
  obtain ⟨cur, h1, h2, h3, h4, h5⟩ := h
  refine ⟨pairRow_length L, .inr ⟨g, cap, cur, rfl, Nat.zero_le _, h1, h3, h4, h2, ?_⟩⟩
  apply List.ext_getElem?
  intro k
  rw [List.getElem?_take]
  by_cases hk : k < L.length * 4
  · rw [if_pos hk]
    have hd : k = k / 4 * 4 + k % 4 := by omega
    have hi : k / 4 < L.length := by omega
    have hj : k % 4 < 4 := Nat.mod_lt _ (by decide)
    have h6 := h5 (k / 4) (k % 4) hi hj
    have h7 := pairRow_get L (k / 4) (k % 4) hi hj
    rw [← hd] at h6 h7
    rw [Array.getElem?_toList, h6, h7]
  · rw [if_neg hk, List.getElem?_eq_none (by rw [pairRow_length]; omega)]
theorem rowIn_of_own (h : w.ownsRow 0 GnT 4 (.slice (some ⟨g, 0, none⟩) L.length cap) L.length (pairRow L)) : RowIn g cap L w := by
  rcases h.2 with ⟨h1, _⟩ | ⟨g', cap', cur, hv, _, hh, hn, hm, hs, hx⟩
  · simp at h1
  · simp only [Value.slice.injEq, Option.some.injEq, Addr.mk.injEq] at hv
    obtain ⟨⟨rfl, _⟩, _, rfl⟩ := hv
    refine ⟨cur, hh, hs, hn, hm, fun i j hi hj => ?_⟩
    have h6 := congrArg (fun l : List Value => l[i * 4 + j]?) hx
    simp only [List.getElem?_take, pairRow_length] at h6
    rw [if_pos (by omega), Array.getElem?_toList] at h6
    rw [h6, pairRow_get L i j hi hj]
/-- What lies behind the row may be written. -/
theorem RowIn.behind (h : RowIn g cap L w) (vs : List Value) : ∀ (o : Nat), L.length * 4 ≤ o → RowIn g cap L (w.setCells g o vs) := by
  induction vs generalizing w with
  | nil => intro o _; exact h
  | cons v vs ih =>
    intro o ho
    refine ih (w := w.setCell ⟨g, o, none⟩ v) ?_ (o + 1) (by omega)
    obtain ⟨cur, h1, h2, h3, h4, h5⟩ := h
    refine ⟨_, Lib.heap_setCell_same (i := o) h1 v, by simpa using h2, h3, h4, fun i j hi hj => ?_⟩
    rw [Array.getElem?_setIfInBounds_ne (by omega)]
    exact h5 i j hi hj
end
theorem zeroValueGn : ∀ w, (zeroValue GnT).run Try.prog w = .ok (.agg #[.int .i64 0, .int .i64 0, .slice none 0 0, .int .i64 0]) w := fun _ => by kernel_rfl
/-- clear of a piece of a row of generations. -/
theorem run_clear_gens (w : World) (ty : TypeId) (g o n c : Nat) (hc : ∀ j, j < n * 4 → (w.cell? ⟨g, o + j, none⟩).isSome = true) (hf : ∀ j, w.frozen? ⟨g, j, none⟩ = false) :
    ∃ vs : List Value, (Builtin.clear_ #[58] ty #[.slice (some ⟨g, o, none⟩) n c]).run Try.prog w = .ok (.tuple #[]) (w.setCells g o vs) := by
  cases n with
  | zero => exact ⟨[], by simp [Builtin.clear_, run_underlying Try.underlying58, World.setCells]⟩
  | succ n =>
    have h1 : ∀ v ∈ (Builtin.zeroCells (Value.agg #[.int .i64 0, .int .i64 0, .slice none 0 0, .int .i64 0]).cells (n + 1)).toList, v.oneCell' = true := by
      intro v hv
      simp only [Builtin.zeroCells, Array.toList_map, List.mem_map] at hv
      obtain ⟨i, _, rfl⟩ := hv
      have hsz : (Value.agg #[.int .i64 0, .int .i64 0, .slice none 0 0, .int .i64 0]).cells = #[.int .i64 0, .int .i64 0, .slice none 0 0, .int .i64 0] := by rfl
      rw [hsz]
      have h4 : i % 4 < 4 := Nat.mod_lt _ (by decide)
      show (#[Value.int .i64 0, .int .i64 0, .slice none 0 0, .int .i64 0][i % 4]!).oneCell' = true
      match i % 4, h4 with
      | 0, _ => rfl
      | 1, _ => rfl
      | 2, _ => rfl
      | 3, _ => rfl
    have hlen : (Builtin.zeroCells (Value.agg #[.int .i64 0, .int .i64 0, .slice none 0 0, .int .i64 0]).cells (n + 1)).toList.length = (n + 1) * 4 := by
      rw [Array.length_toList, size_zeroCells]; rfl
    have hst := run_storeCells_cells (P := Try.prog) g o (Builtin.zeroCells (Value.agg #[.int .i64 0, .int .i64 0, .slice none 0 0, .int .i64 0]).cells (n + 1)).toList 0 w (fun j hj => by rw [Nat.add_zero]; exact hc j (by rw [hlen] at hj; exact hj)) (fun j _ => hf _) h1
    simp only [Nat.add_zero] at hst
    refine ⟨(Builtin.zeroCells (Value.agg #[.int .i64 0, .int .i64 0, .slice none 0 0, .int .i64 0]).cells (n + 1)).toList, ?_⟩
    simp only [Builtin.clear_, Sem.run_bind, run_underlying Try.underlying58, Result.andThen_ok]
    simp [zeroValueGn, hst]
end Go.Proofs.Ytnliapdhmjljiaa
