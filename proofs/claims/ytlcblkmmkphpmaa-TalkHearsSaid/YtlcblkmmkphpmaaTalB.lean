/- strings.Builder's copyCheck, WriteString and String on the block of talk's writer. Conditions: as each theorem says. -/
import Derived.Test.YtlcblkmmkphpmaaPackL
import Derived.Test.YtlcblkmmkphpmaaGrow
import Derived.Shelf.Strings.Builder1
namespace Go.Proofs.Ytlcblkmmkphpmaa
open Go.RowKit

abbrev WrT : TypeId := 83
abbrev IsW (B b : Nat) (l : List UInt8) (w : World) : Prop := Lib.IsBuilder WrT 5 B b (byteCells l) w
/-- What the writer leaves alone: every block that is neither its own nor one of bytes. -/
def Wk (b : Nat) (W W' : World) : Prop := ∀ (g : Nat) (c : Array Value) (t : TypeId) (fr : Nat × Nat), W.heap[g]? = some (.cells c t fr) → g ≠ b → t ≠ 5 → W'.heap[g]? = some (.cells c t fr)
theorem Wk.refl (b : Nat) (W : World) : Wk b W W := fun _ _ _ _ h _ _ => h
theorem Wk.trans {b : Nat} {u v w : World} (h : Wk b u v) (k : Wk b v w) : Wk b u w := fun g c t fr hg hn ht => k g c t fr (h g c t fr hg hn ht) hn ht
theorem Wk.of_below {b : Nat} {u v : World} (h : Below u.heap.size u v) : Wk b u v := fun _ _ _ _ hg _ _ => Grew.at_ h hg
theorem Wk.set (b i : Nat) (u : World) (v : Value) : Wk b u (u.setCell ⟨b, i, none⟩ v) := fun g c t fr hg hn _ => by
  rw [heap_setCell_other _ _ _ _ (fun e => hn (by simpa using e))]; exact hg
theorem Wk.blk {b g : Nat} {T : TypeId} {cs : List Value} {u v : World} (h : Wk b u v) (hb : BlkAt g T cs u) (hn : g ≠ b) (ht : T ≠ 5) : BlkAt g T cs v := h g _ T _ hb hn ht
theorem infoU8b : (Try.prog.info? 5).map (fun i => (i.zero, i.size, i.bytes)) = some (some (.int .u8 0), 1, 1) := by kernel_rfl
theorem sizeBuilder : (Try.prog.info? 81).map (·.size) = some 2 := by kernel_rfl
theorem liesBuilder : liesAt Try.prog Try.prog.depth WrT (2 / Try.prog.cellsOf WrT) 0 81 1 = true := by kernel_rfl

set_option maxRecDepth 100000 in
theorem copyCheck_used (b : Nat) (w : World) (h0 : w.cell? ⟨b, 0, none⟩ = some (.pointer (some ⟨b, 0, none⟩))) :
    Calls Try.prog 82 #[.pointer (some ⟨b, 0, none⟩)] w fun e w' => e = .returned (.tuple #[]) ∧ w' = w := by
  obtain ⟨j, hj, hjs⟩ := Option.map_eq_some_iff.1 sizeBuilder
  go_enter Try.func82, Try.ntmps82
  go_wp2
  rw [Lib.run_neq_ptr_same w _ Try.underlying78 hj]
  go_wp2
  go_end0
  exact ⟨rfl, rfl⟩
set_option maxRecDepth 100000 in
theorem copyCheck_fresh (b : Nat) (w : World) (h0 : w.cell? ⟨b, 0, none⟩ = some (.pointer none)) (hsh : w.shape? b = some (WrT, 2)) (hfz : w.frozen? ⟨b, 0, none⟩ = false) :
    Calls Try.prog 82 #[.pointer (some ⟨b, 0, none⟩)] w fun e w' => e = .returned (.tuple #[]) ∧ w' = w.setCell ⟨b, 0, none⟩ (.pointer (some ⟨b, 0, none⟩)) := by
  obtain ⟨j, hj, hjs⟩ := Option.map_eq_some_iff.1 sizeBuilder
  go_enter Try.func82, Try.ntmps82
  go_wp2
  rw [Lib.run_to_unsafe w ⟨b, 0, none⟩ Try.underlying78 Try.underlying134 hj (by rw [hjs]; decide) hsh (Nat.zero_lt_succ 1)]
  simp only [Result.andThen]
  rw [Oper.upon_value]
  go_wp2
  rw [run_callFunc_extern Try.func84 (by kernel_rfl) (by kernel_rfl) (by kernel_rfl) (e := Extern.AbiNoEscape.same) (by kernel_rfl)]
  rw [Lib.run_noEscape]
  simp only [Result.andThen]
  rw [Oper.upon_value]
  go_wp2
  rw [Lib.run_from_unsafe w ⟨b, 0, none⟩ Try.underlying134 Try.underlying78 hj hsh liesBuilder]
  simp only [Result.andThen]
  rw [Oper.upon_value]
  go_wp2
  go_end0
  exact ⟨rfl, rfl⟩
theorem copyCheck_any (B b : Nat) (cs : List Value) (w : World) (h : Lib.IsBuilder WrT 5 B b cs w) :
    Calls Try.prog 82 #[.pointer (some ⟨b, 0, none⟩)] w fun e w' => e = .returned (.tuple #[]) ∧ Lib.BuilderAt WrT 5 B b (.pointer (some ⟨b, 0, none⟩)) cs w' ∧ Below B w w' ∧ Wk b w w' := by
  rcases h with h | h
  · refine (copyCheck_fresh b w h.cell0 h.shape h.frozen0).mono ?_
    rintro e w' ⟨rfl, rfl⟩
    exact ⟨rfl, h.used _, (Below.refl B w).setCell (p := ⟨b, 0, none⟩) h.1 _, Wk.set b 0 w _⟩
  · refine (copyCheck_used b w h.cell0).mono ?_
    rintro e w' ⟨rfl, rfl⟩
    exact ⟨rfl, h, Below.refl B _, Wk.refl b _⟩

set_option maxRecDepth 100000 in
set_option maxHeartbeats 1000000 in
theorem writeString_any (B b : Nat) (l : List UInt8) (s : List UInt8) (w : World) (h : Lib.IsBuilder WrT 5 B b (byteCells l) w) (hlen : l.length + s.length ≤ 140737488355328) (hBw : B ≤ w.heap.size) :
    Calls Try.prog 69 #[.pointer (some ⟨b, 0, none⟩), .string (bs s)] w fun e w' => e = .returned (.tuple #[.int .i64 (bs s).size, .nilIface]) ∧ Lib.IsBuilder WrT 5 B b (byteCells (l ++ s)) w' ∧ Below B w w' ∧ Wk b w w' := by
  obtain ⟨i0, hi, hz0, hz1, hz2⟩ := info_parts infoU8b
  have hs : (bs s).size = s.length := bs_size s
  have hl : (byteCells l).length = l.length := byteCells_length l
  have hsc : Lib.strCells (bs s) = byteCells s := by simp [Lib.strCells, bs, byteCells]
  go_enter Try.func69, Try.ntmps69
  go_wp2_with (go_at_call 82; refine (copyCheck_any B b _ _ h).mono ?_)
  rintro e w1 ⟨rfl, h1, hb1, hk1⟩
  obtain ⟨hB, v, hbk, hown, hne⟩ := h1
  have c0 : w1.cell? ⟨b, 0, none⟩ = some (.pointer (some ⟨b, 0, none⟩)) := by rw [Lib.cell_of_heap hbk]; rfl
  have c1 : w1.cell? ⟨b, 1, none⟩ = some v := by rw [Lib.cell_of_heap hbk]; rfl
  go_wp2_with (at_builtin; refine Lib.wpList_append_own_string _ rfl _ _ 79 9 rfl B 5 i0 Try.underlying79 Try.underlying9 hi hz0 hz1 hz2 _ _ _ rfl hown (bs s) rfl ?c3 ?c4 ?c5 ?_)
  case c3 => unfold maxLen; omega
  case c4 => omega
  case c5 => have := hb1.size; omega
  intro v' w2 hown' hgrow _
  have hk2 : Wk b w1 w2 := fun g c t fr hg _ ht => kept_other hgrow hown hg ht
  have HK := Lib.hid (hk1.trans hk2)
  clear hk1 hk2
  have hlt : b < w1.heap.size := by
    rcases Nat.lt_or_ge b w1.heap.size with h' | h'
    · exact h'
    · simp [Array.getElem?_eq_none h'] at hbk
  have hb2 : w2.heap[b]? = some (.cells #[.pointer (some ⟨b, 0, none⟩), v] WrT (0, 0)) := by
    rw [hgrow.block b hlt (fun e => hne e.symm)]
    exact hbk
  have d0 : w2.cell? ⟨b, 0, none⟩ = some (.pointer (some ⟨b, 0, none⟩)) := by rw [Lib.cell_of_heap hb2]; rfl
  have d1 : w2.cell? ⟨b, 1, none⟩ = some v := by rw [Lib.cell_of_heap hb2]; rfl
  have f1 : w2.frozen? ⟨b, 1, none⟩ = false := Lib.frozen_of_heap hb2 1
  obtain ⟨ao, n', cap, rfl⟩ : ∃ ao n' cap, v' = .slice ao n' cap := by
    rcases hown'.2 with ⟨hv, _⟩ | ⟨g, cap, cur, hv, _⟩
    · exact ⟨_, _, _, hv⟩
    · exact ⟨_, _, _, hv⟩
  have hown2 : w2.ownsRow B 5 1 (.slice ao n' cap) (byteCells (l ++ s)).length (byteCells (l ++ s)) := by
    rw [byteCells_append, List.length_append, byteCells_length, byteCells_length]; exact hown'
  clear hs hl
  go_wp2
  go_ret2
  refine ⟨rfl, .inr ?_, ?_, HK.out.trans (Wk.set b 1 w2 _)⟩
  · exact Lib.BuilderAt.put (T := WrT) (e := 5) hB hb2 (bs' := byteCells (l ++ s)) hown2 (by decide)
  · exact (hb1.grown hgrow (by have := hb1.size; omega) (fun k hk => (hown.lt k hk).1)).setCell (p := ⟨b, 1, none⟩) hB _

theorem isb_below {T e : TypeId} {B b : Nat} {cs : List Value} {w w1 : World} (h : Lib.IsBuilder T e B b cs w) (hb : Below w.heap.size w w1) : Lib.IsBuilder T e B b cs w1 := by
  rcases h with h | h
  · obtain ⟨h1, v, h2, h3, h4⟩ := h
    exact .inl ⟨h1, v, Grew.at_ hb h2, own_below h3 hb, h4⟩
  · obtain ⟨h1, v, h2, h3, h4⟩ := h
    exact .inr ⟨h1, v, Grew.at_ hb h2, own_below h3 hb, h4⟩
theorem isw_new (w : World) : IsW w.heap.size w.heap.size [] (w.alloc (.cells #[.pointer none, .slice none 0 0] WrT)) :=
  .inl ⟨Nat.le_refl _, _, heap_alloc_new _ _, World.ownsRow_nil _ _ _ _, by simp [Value.ownBlock]⟩
set_option maxRecDepth 100000 in
set_option maxHeartbeats 1000000 in
theorem string_any (B b : Nat) (l : List UInt8) (w : World) (h : IsW B b l w) (h0 : l ≠ []) :
    Calls Try.prog 43 #[.pointer (some ⟨b, 0, none⟩)] w fun e w' => e = .returned (.string (bs l)) ∧ Below B w w' := by
  obtain ⟨p, hB, v, hbk, hown, hne⟩ : ∃ p, Lib.BuilderAt WrT 5 B b p (byteCells l) w := by
    rcases h with h | h
    · exact ⟨_, h⟩
    · exact ⟨_, h⟩
  have hl0 : l.length ≠ 0 := by simpa using h0
  rw [byteCells_length] at hown
  have hown' := hown
  rcases hown.2 with ⟨_, hz⟩ | ⟨g, cap, cur, rfl, hbg, hg, hnc, hcm, hcs, htake⟩
  · exact absurd hz hl0
  have c1 : w.cell? ⟨b, 1, none⟩ = some (.slice (some ⟨g, 0, none⟩) l.length cap) := by rw [Lib.cell_of_heap hbk]; rfl
  have c1d : w.drew.cell? ⟨b, 1, none⟩ = some (.slice (some ⟨g, 0, none⟩) l.length cap) := c1
  have hSD := fun W : World => Lib.run_unsafeSliceData_row (P := Try.prog) (w := W) #[79] 126 ⟨g, 0, none⟩ l.length cap (by omega)
  have hUS : (Builtin.unsafeString_ #[126, 3] 9 #[.pointer (some ⟨g, 0, none⟩), .int .i64 l.length]).run Try.prog w.drew = .ok (.string (bs l)) (w.drew.freeze ⟨g, 0, none⟩ l.length) :=
    Lib.run_unsafeString_row w.drew 126 3 9 5 Try.underlying126 (by kernel_rfl) g cur.size (by have hg' : w.drew.heap[g]? = some (.cells cur 5 (0, 0)) := hg; simp [World.shape?, hg']) l h0 (by omega) (by unfold maxLen at hcm; omega) (fun j x hx => hown'.cells (g := g) rfl j (.int .u8 x.toNat) (by simp [byteCells, hx]))
  go_enter Try.func43, Try.ntmps43
  go_wp2_with (fail)
  go_region
  all_goals (go_wp2; go_ret; exact ⟨rfl, Lib.below_freeze (Below.drew (Below.refl B w)) (p := ⟨g, 0, none⟩) hbg _⟩)
end Go.Proofs.Ytlcblkmmkphpmaa
