/- The walk of Since. Conditions: as each theorem says. -/
import Derived.Test.YtnliapdhmjljiaaGenN
namespace Go.Proofs.Ytnliapdhmjljiaa
open Go.RowKit

/-- How great a key is. -/
def sizeG (gs : List Gn) : Nat := (gs.map fun g => g.puts.length + 1).sum
theorem sizeG_len : ∀ gs : List Gn, gs.length ≤ sizeG gs := by
  intro gs
  induction gs with
  | nil => exact Nat.le_refl _
  | cons g gs ih => unfold sizeG at *; simp only [List.map_cons, List.sum_cons, List.length_cons]; omega
theorem sizeG_puts : ∀ (gs : List Gn), ∀ g ∈ gs, g.puts.length + 1 ≤ sizeG gs := by
  intro gs
  induction gs with
  | nil => intro g hg; simp at hg
  | cons a gs ih =>
    intro g hg
    unfold sizeG at *
    simp only [List.map_cons, List.sum_cons]
    rcases List.mem_cons.1 hg with rfl | hg
    · omega
    · have := ih g hg; omega
theorem sizeG_app (a b : List Gn) : sizeG (a ++ b) = sizeG a + sizeG b := by unfold sizeG; simp
theorem since_len (rev : Int) : ∀ gs : List Gn, (sinceG gs rev).length ≤ sizeG gs := by
  intro gs
  induction gs with
  | nil => exact Nat.le_refl _
  | cons g gs ih =>
    have e : sinceG (g :: gs) rev = ((g.puts.filter fun p => decide (rev ≤ p)).map (fun p => (p, false)) ++ if 0 < g.fin ∧ rev ≤ g.fin then [(g.fin, true)] else []) ++ sinceG gs rev := rfl
    have e2 : sizeG (g :: gs) = (g.puts.length + 1) + sizeG gs := rfl
    have h1 := List.length_filter_le (fun p => decide (rev ≤ p)) g.puts
    have h2 : (if 0 < g.fin ∧ rev ≤ g.fin then [(g.fin, true)] else [] : List (Int × Bool)).length ≤ 1 := by split <;> simp
    rw [e, e2, List.length_append, List.length_append, List.length_map]
    omega
def chgCells (c : Int × Bool) : List Value := [.int .i64 c.1, .bool c.2]
def chgRow (L : List (Int × Bool)) : List Value := L.flatMap chgCells
theorem chgRow_append (a b : List (Int × Bool)) : chgRow (a ++ b) = chgRow a ++ chgRow b := by unfold chgRow; rw [List.flatMap_append]
theorem chgRow_length (L : List (Int × Bool)) : (chgRow L).length = L.length * 2 := by
  induction L with
  | nil => rfl
  | cons a L ih => simp only [chgRow, List.flatMap_cons, List.length_append, List.length_cons] at ih ⊢; simp only [chgCells, List.length_cons, List.length_nil]; omega
abbrev ChgT : TypeId := 50
theorem infoChg : (Try.prog.info? ChgT).map (fun i => (i.zero, i.size, i.bytes)) = some (some (.agg #[.int .i64 0, .bool false]), 2, 16) := by kernel_rfl
theorem since_take (gs : List Gn) (k : Nat) (rev : Int) (hk : k < gs.length) : sinceG (gs.take (k + 1)) rev = sinceG (gs.take k) rev ++ (((gs[k].puts.filter fun p => decide (rev ≤ p)).map (fun p => (p, false))) ++ if 0 < gs[k].fin ∧ rev ≤ gs[k].fin then [(gs[k].fin, true)] else []) := by
  rw [List.take_succ_eq_append_getElem hk]
  unfold sinceG
  rw [List.flatMap_append]
  simp
/-- What Since has collected: its row, in a world that has but grown. -/
structure Got (w : World) (v : Value) (L : List (Int × Bool)) (w' : World) : Prop where
  own : w'.ownsRow w.heap.size ChgT 2 v L.length (chgRow L)
  below : Below w.heap.size w w'
theorem Got.start (w : World) : Got w (.slice none 0 0) [] w := ⟨World.ownsRow_nil _ _ _ _, Below.refl _ _⟩
theorem Got.alloc {w : World} {v : Value} {L : List (Int × Bool)} {w' : World} (h : Got w v L w') (o : Obj) : Got w v L (w'.alloc o) := ⟨h.own.alloc o, h.below.trans ((alloc_below w' o).mono h.below.size)⟩
theorem Got.more {w : World} {v v' : Value} {L : List (Int × Bool)} {w1 w2 : World} (h : Got w v L w1) (c : Int × Bool) (hown : w2.ownsRow w.heap.size ChgT 2 v' (L.length + 1) (chgRow L ++ chgCells c)) (hg : w1.grownBy w2 v.ownBlock) : Got w v' (L ++ [c]) w2 := by
  refine ⟨?_, ?_⟩
  · rw [chgRow_append, List.length_append]; simpa [chgRow] using hown
  · refine h.below.trans ⟨hg.os, hg.tape, hg.output, hg.size, fun i hi => hg.block i (Nat.lt_of_lt_of_le hi h.below.size) (fun e => ?_)⟩
    have := own_base h.own i e.symm
    omega
/-- append of a change, at the operation. -/
theorem wpList_append_chg {ops : Array Oper} {rest : List Oper} {o : Oper} {a : Act} {w w1 : World} {Q : Exit → Act → World → Prop} (hgd : o.guard = none) (s x : Operand)
    (ho : o.op = .call { callee := .builtin .append, args := #[s, x], argTypes := #[45, 45] }) (v : Value) (L : List (Int × Bool)) (hs : a.eval s = v) (p : Int) (b : Bool) (h : Got w v L w1)
    (hx : a.eval x = .slice (some ⟨w1.heap.size, 0, none⟩) 1 1) (hl : L.length + 1 ≤ 1000000)
    (hK : ∀ v' w', Got w v' (L ++ [(p, b)]) w' → (w1.alloc (.cells #[.int .i64 p, .bool b] ChgT)).grownBy w' v.ownBlock → wpList Try.prog ops Q rest (a.put o.dst v') w') :
    wpList Try.prog ops Q (o :: rest) a (w1.alloc (.cells #[.int .i64 p, .bool b] ChgT)) := by
  obtain ⟨i0, hi, hz0, hz1, hz2⟩ := info_parts infoChg
  have hsz := h.below.size
  refine wpList_append_own _ hgd s x 45 ho w.heap.size ChgT i0 (.agg #[.int .i64 0, .bool false]) 2 16 Try.underlying45 hi hz0 hz1 hz2 rfl (by decide) v _ _ hs (h.own.alloc _) ⟨w1.heap.size, 0, none⟩ 1 1 (chgCells (p, b)) hx rfl
    (fun j u hu => new_cells w1 (chgCells (p, b)) ChgT j u hu) (by intro u hu; simp [chgCells] at hu; rcases hu with rfl | rfl <;> rfl) (by unfold maxLen; omega) (by omega) (by simp; omega) ?_
  intro v' w' hown hg _
  exact hK v' w' ((h.alloc _).more (p, b) hown hg) hg
/-- A block of another type than the row that is appended to. -/
theorem Got.other {w : World} {v : Value} {L : List (Int × Bool)} {w1 w2 : World} (h : Got w v L w1) {g : Nat} {cs : List Value} {T : TypeId} (hb : BlkAt g T cs w1) (hT : T ≠ ChgT) (p : Int) (b : Bool) (hg : (w1.alloc (.cells #[.int .i64 p, .bool b] ChgT)).grownBy w2 v.ownBlock) : BlkAt g T cs w2 :=
  kept_other hg (h.own.alloc _) (hb.grew (alloc_below w1 _)) hT
end Go.Proofs.Ytnliapdhmjljiaa
