/- The calls that come in; the contract of IndexPlays. Conditions: as each theorem says. -/
import Derived.Test.YteoibolompiohaaIdxSh
namespace Go.Proofs.Yteoibolompiohaa
open Go.RowKit

abbrev IopT : TypeId := 29
theorem ciop : Try.prog.cellsOf IopT = 3 := by kernel_rfl
theorem cii : Try.prog.cellsOf 3 = 1 := by kernel_rfl
theorem cis : Try.prog.cellsOf 9 = 1 := by kernel_rfl
section
open Go.WideShapes Go.ChangeShapes
variable {H : Type} {enc : TypeId × Value → H} {w : World}
set_option maxRecDepth 100000 in
theorem iop_cells {fuel : Nat} {cs : List Value} {x : DataW H × List MemPlace} (h : DataW.trod enc Try.prog w 0 (fun _ => true) true fuel IopT cs = some x) : ∃ y : Opr, cs = oprCells y := by
  obtain ⟨xs, n, _, _, hl, hlen, hg⟩ := DataW.trod_struct Try.underlying29 h
  rw [ciop] at hl
  match cs, hl, xs, hlen with
  | [c0, c1, c2], _, [y0, y1, y2], _ =>
    obtain ⟨a, e0, _, _⟩ := DataW.trod_int Try.underlying3 (by simpa using hg 0 _ rfl)
    obtain ⟨b, e1, _, l1⟩ := DataW.trod_string Try.underlying9 (by simpa using hg 1 _ rfl)
    obtain ⟨c, e2, _, _⟩ := DataW.trod_int Try.underlying3 (by simpa using hg 2 _ rfl)
    rw [cii] at e0 e2
    rw [cis] at e1
    simp at e0 e1 e2
    subst e0 e1 e2
    exact ⟨⟨a, b.data.toList, c⟩, by simp only [oprCells, bs_of]⟩
end
def IsIops (w : World) (v : Value) : Prop := IsRows 3 oprCells (fun _ _ => True) w v
set_option maxRecDepth 100000 in
open Go.WideShapes Go.ChangeShapes in
theorem open_iops {H : Type} {enc : TypeId × Value → H} {w : World} {r : Reach} {base : Nat} {v : Value} {d : DataW H} {p : List MemPlace}
    (hv : Value.okWide Try.prog w r base 22 v) (h : DataW.Trod enc Try.prog w 0 (fun _ => true) true 22 v d p) : IsIops w v :=
  open_rows Try.underlying22 ciop (by decide) (fun _ _ _ h => by obtain ⟨y, e⟩ := iop_cells h; exact ⟨y, e, trivial⟩) (fun _ => rfl) hv h
/-- THE LAW IndexPlays. -/
theorem indexPlays_walk (W : World) (v : Value) (h : IsIops W v) : Calls Try.prog 3 #[v] W fun e w' => e = .returned (.bool true) ∧ Below W.heap.size W w' := by
  obtain ⟨L, a, cap, rfl, l1, l2, hL, _⟩ := h
  unfold maxLen at l2
  exact plays_law L a cap W (by omega) hL
end Go.Proofs.Yteoibolompiohaa
