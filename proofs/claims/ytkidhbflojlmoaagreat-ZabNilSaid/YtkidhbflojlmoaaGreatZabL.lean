/- A log's clip, and an entry appended to a clipped log. Conditions: as each theorem says. -/
import Derived.Test.YtkidhbflojlmoaaGreatZabK
import Derived.Deep.AppendLies
namespace Go.Proofs.YtkidhbflojlmoaaGreat
open Go.RowKit

abbrev EnsT : TypeId := 27
abbrev EntT : TypeId := 72
theorem entRow_snoc (L : List Ent) (x : Ent) : entRow (L ++ [x]) = entRow L ++ entCells x := by simp [entRow]
theorem log_append (a : Option Addr) (cap : Nat) (L : List Ent) (x : Ent) (w : World) (hE : EntsAt w (.slice a L.length cap) L) (hn : L.length + 1 ≤ 1000000) :
    ∃ b c w', (Builtin.append_ #[EnsT, EnsT] EnsT #[.slice a L.length L.length, .slice (some ⟨w.heap.size, 0, none⟩) 1 1]).run Tryz.prog (w.alloc (.cells (entCells x).toArray EntT)) = .ok (.slice (some ⟨b, 0, none⟩) (L.length + 1) c) w' ∧
      LogOf (.slice (some ⟨b, 0, none⟩) (L.length + 1) c) (L ++ [x]) w' ∧ w.heap.size ≤ b ∧ Below w.heap.size w w' := by
  obtain ⟨i5, hi, hz0, hz1, hz2⟩ := info_parts infoEnt
  generalize hW : w.alloc (.cells (entCells x).toArray EntT) = W
  have hB : Below w.heap.size w W := by rw [← hW]; exact alloc_below w _
  have hnew : BlkAt w.heap.size EntT (entCells x) W := by rw [← hW]; exact BlkAt.alloc_new w _ _
  have hnews : ∀ j u, (entCells x)[j]? = some u → W.cell? ((⟨w.heap.size, 0, none⟩ : Addr).add j) = some u := by
    intro j u hu
    have ha : (⟨w.heap.size, 0, none⟩ : Addr).add j = ⟨w.heap.size, j, none⟩ := by unfold Addr.add; split <;> simp_all
    rw [ha]
    exact hnew.cell hu
  have grown : ∀ (old : Nat), old < L.length + 1 →
      LogOf (.slice (some ⟨W.heap.size, 0, none⟩) (L.length + 1) (grownCap W (L.length + 1) old EntT)) (L ++ [x]) (W.drew.alloc (.cells ((entRow L).toArray ++ (entCells x).toArray ++ Builtin.zeroCells (Value.cells (.agg #[.int .i64 0, .int .i64 0, .string ⟨#[]⟩])) (grownCap W (L.length + 1) old EntT - (L.length + 1))) EntT)) ∧
      Below W.heap.size W (W.drew.alloc (.cells ((entRow L).toArray ++ (entCells x).toArray ++ Builtin.zeroCells (Value.cells (.agg #[.int .i64 0, .int .i64 0, .string ⟨#[]⟩])) (grownCap W (L.length + 1) old EntT - (L.length + 1))) EntT)) := by
    intro old ho
    have hge := grownCap_ge W (L.length + 1) old EntT
    have hcm : grownCap W (L.length + 1) old EntT ≤ maxLen := grownCap_le_maxLen W (L.length + 1) old EntT (by unfold maxLen; omega)
    have hl : (L ++ [x]).length = L.length + 1 := by simp
    have hown : (W.drew.alloc (.cells ((entRow L).toArray ++ (entCells x).toArray ++ Builtin.zeroCells (Value.cells (.agg #[.int .i64 0, .int .i64 0, .string ⟨#[]⟩])) (grownCap W (L.length + 1) old EntT - (L.length + 1))) EntT)).ownsRow 0 EntT 3 (.slice (some ⟨W.heap.size, 0, none⟩) (L.length + 1) (grownCap W (L.length + 1) old EntT)) (L ++ [x]).length (entRow (L ++ [x])) := by
      refine ⟨by rw [entRow_length], .inr ⟨W.heap.size, _, _, by rw [hl], Nat.zero_le _, heap_alloc_new W.drew _, by rw [hl]; exact hge, hcm, ?_, ?_⟩⟩
      · simp only [Array.size_append, List.size_toArray, size_zeroCells, entRow_length]
        rw [show (Value.cells (.agg #[.int .i64 0, .int .i64 0, .string ⟨#[]⟩])).size = 3 from rfl, show (entCells x).length = 3 from rfl]
        omega
      · simp only [Array.toList_append, List.append_assoc]
        rw [hl, ← List.append_assoc, ← entRow_snoc, show (L.length + 1) * 3 = (entRow (L ++ [x])).length by rw [entRow_length, hl]]
        exact List.take_left
    refine ⟨⟨_, _, by rw [hl], ?_, by rw [hl]; omega, by rw [hl]; exact hge⟩, (first_drew (Below.refl W.heap.size W)).alloc (Nat.le_refl _) _⟩
    exact ents_own hown
  have hbW : w.heap.size ≤ W.heap.size := hB.size
  rcases a with _ | ad
  · have hL0 : L = [] := by
      rcases Nat.eq_zero_or_pos L.length with h | h
      · exact List.eq_nil_of_length_eq_zero h
      · obtain ⟨b', off', e, _⟩ := ents_get hE 0 h; cases e
    subst hL0
    have hr := run_append_nil (P := Tryz.prog) W EnsT EnsT EntT i5 _ Tryz.underlying27 hi hz0 ⟨w.heap.size, 0, none⟩ 1 1 (entCells x) (by rw [hz1]; rfl) hnews (by omega) (by omega) (by rw [hz2]; omega)
    have hg := grown 0 (by omega)
    simp only [entRow, List.flatMap_nil, Array.empty_append, List.length_nil, Nat.zero_add] at hg
    exact ⟨_, _, _, hr, hg.1, hbW, hB.trans (hg.2.mono hbW)⟩
  · have holds : ∀ j u, (entRow L)[j]? = some u → W.cell? (ad.add j) = some u := by
      intro j u hj
      have hlt : j < (entRow L).length := (List.getElem?_eq_some_iff.1 hj).1
      rw [entRow_length] at hlt
      obtain ⟨b', off', e, _⟩ := ents_get hE 0 (by omega)
      simp only [Option.some.injEq] at e
      subst e
      exact ents_cells (EntsAt.grew hE hB) j u hj
    have hr := run_append_grow (P := Tryz.prog) W EnsT EnsT EntT i5 _ Tryz.underlying27 hi hz0 ad L.length L.length (entRow L) (by rw [entRow_length, hz1]) holds ⟨w.heap.size, 0, none⟩ 1 1 (entCells x) (by rw [hz1]; rfl) hnews (by omega) (by omega) (growslice_fits (by omega) (by rw [hz2]; omega))
    have hg := grown L.length (by omega)
    exact ⟨_, _, _, hr, hg.1, hbW, hB.trans (hg.2.mono hbW)⟩
set_option maxRecDepth 100000 in
theorem clip_any (a : Option Addr) (n cap : Nat) (hn : n ≤ cap) (h0 : a = none → n = 0) (w : World) :
    Calls Tryz.prog 29 #[.slice a n cap] w fun e w' => e = .returned (.slice a n n) ∧ w' = w := by
  rcases a with _ | ad
  · obtain rfl := h0 rfl
    go_enter Tryz.func29, Tryz.ntmps29
    go_wp2
    go_ret
    exact ⟨rfl, rfl⟩
  · clear h0
    go_enter Tryz.func29, Tryz.ntmps29
    go_wp2
    go_ret
    exact ⟨rfl, rfl⟩
end Go.Proofs.YtkidhbflojlmoaaGreat
