/- Three texts that come in as an array; the law DiskMoves. Conditions: as each theorem says. -/
import Derived.Test.YtbaffabemomgjaaDskT
import Derived.OpenShut
namespace Go.Proofs.Ytbaffabemomgjaa
open Go.RowKit

abbrev TriT : TypeId := 22
theorem ctri : Try.prog.cellsOf TriT = 3 := by kernel_rfl
def IsTri (v : Value) : Prop := ∃ N : Nat → Bys, v = .agg (triC N).toArray ∧ ∀ j, (N j).length ≤ maxLen
def tri3 (a b c : Bys) : Nat → Bys := fun i => if i = 0 then a else if i = 1 then b else if i = 2 then c else []
set_option maxRecDepth 100000 in
open Go.WideShapes Go.ChangeShapes in
theorem open_tri {H : Type} {enc : TypeId × Value → H} {w : World} {r : Reach} {base : Nat} {v : Value} {d : DataW H} {p : List MemPlace}
    (hv : Value.okWide Try.prog w r base 22 v) (h : DataW.Trod enc Try.prog w 0 (fun _ => true) true 22 v d p) : IsTri v := by
  have hv2 : ∃ cs, v = .agg cs ∧ cs.size = Try.prog.cellsOf TriT := by
    simp only [Value.okWide, Try.underlying22] at hv
    obtain ⟨cs, h1, h2, _⟩ := hv
    exact ⟨cs, h1, h2⟩
  obtain ⟨cs, rfl, hsz⟩ := hv2
  obtain ⟨fuel, hf⟩ := h
  have hf2 : DataW.trod enc Try.prog w 0 (fun _ => true) true fuel TriT cs.toList = some (d, p) := by simpa [Value.cells] using hf
  obtain ⟨xs, m, _, _, hl, hlen, hg⟩ := DataW.trod_array Try.underlying22 hf2
  rw [ctri] at hl
  obtain ⟨cl⟩ := cs
  match cl, hl, xs, hlen with
  | [c0, c1, c2], _, [y0, y1, y2], _ =>
    have h0 := hg 0 (by omega)
    have h1 := hg 1 (by omega)
    have h2 := hg 2 (by omega)
    rw [cdt] at h0 h1 h2
    obtain ⟨a, e0, _, l0⟩ := DataW.trod_string Try.underlying9 (by simpa using h0)
    obtain ⟨b, e1, _, l1⟩ := DataW.trod_string Try.underlying9 (by simpa using h1)
    obtain ⟨c, e2, _, l2⟩ := DataW.trod_string Try.underlying9 (by simpa using h2)
    simp at e0 e1 e2
    subst e0 e1 e2
    refine ⟨tri3 a.data.toList b.data.toList c.data.toList, ?_, fun j => ?_⟩
    · simp [triC, tri3, strV, bs_of]
    · unfold tri3
      split
      · simpa using l0
      split
      · simpa using l1
      split
      · simpa using l2
      · simp
/-- THE LAW DiskMoves. -/
theorem diskMoves_walk (W : World) (v0 v1 : Value) (h0 : IsTri v0) (h1 : IsTri v1) :
    Calls Try.prog 3 #[v0, v1] W fun e w' => e = .returned (.bool true) ∧ Below W.heap.size W w' := by
  obtain ⟨N, rfl, hN⟩ := h0
  obtain ⟨X, rfl, hX⟩ := h1
  exact moves_law N X W hN hX
end Go.Proofs.Ytbaffabemomgjaa
