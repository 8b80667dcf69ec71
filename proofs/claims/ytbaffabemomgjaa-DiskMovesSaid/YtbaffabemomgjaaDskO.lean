/- The calls that come in; the law DiskUsed. Conditions: as each theorem says. -/
import Derived.Test.YtbaffabemomgjaaDskN
namespace Go.Proofs.Ytbaffabemomgjaa
open Go.RowKit

abbrev DopT : TypeId := 44
theorem cdop : Try.prog.cellsOf DopT = 5 := by kernel_rfl
theorem cdi : Try.prog.cellsOf 3 = 1 := by kernel_rfl
theorem cdt : Try.prog.cellsOf 9 = 1 := by kernel_rfl
theorem cdl : Try.prog.cellsOf 42 = 1 := by kernel_rfl
section
open Go.WideShapes Go.ChangeShapes
variable {H : Type} {enc : TypeId × Value → H} {w : World}
theorem slice_form {P : Program} {t e : TypeId} (ht : P.underlying t = some (.slice e)) {fuel : Nat} {cs : List Value} {x : DataW H × List MemPlace} (h : DataW.trod enc P w 0 (fun _ => true) true fuel t cs = some x) : ∃ a l c, cs = [.slice a l c] := by
  rcases Go.Deep.open_slice ht h with ⟨hcs, _⟩ | ⟨a, len', cap', m, n, D, Pl, hcs, _⟩
  · exact ⟨_, _, _, hcs⟩
  · exact ⟨_, _, _, hcs⟩
theorem wf_hi {n : Int} (h : (Lit.int .i64 n).wf = true) : n < 9223372036854775808 := by
  simp [Lit.wf, IntKind.max, IntKind.min] at h; have := h.2; simp [IntKind.max, IntKind.signed, IntKind.bits] at this; omega
set_option maxRecDepth 100000 in
theorem dop_cells {fuel : Nat} {cs : List Value} {x : DataW H × List MemPlace} (h : DataW.trod enc Try.prog w 0 (fun _ => true) true fuel DopT cs = some x) : ∃ y : Dop, cs = dopCells y ∧ y.ok w := by
  obtain ⟨xs, n, _, _, hl, hlen, hg⟩ := DataW.trod_struct Try.underlying44 h
  rw [cdop] at hl
  match cs, hl, xs, hlen with
  | [c0, c1, c2, c3, c4], _, [y0, y1, y2, y3, y4], _ =>
    obtain ⟨a, e0, _, _⟩ := DataW.trod_int Try.underlying3 (by simpa using hg 0 _ rfl)
    obtain ⟨b, e1, _, l1⟩ := DataW.trod_string Try.underlying9 (by simpa using hg 1 _ rfl)
    obtain ⟨c, e2, _, l2⟩ := DataW.trod_string Try.underlying9 (by simpa using hg 2 _ rfl)
    obtain ⟨d, e3, _, l3⟩ := DataW.trod_int Try.underlying3 (by simpa using hg 3 _ rfl)
    have e4' := hg 4 _ rfl
    simp at e4'
    rw [cdl] at e4'
    simp at e4'
    obtain ⟨ka, kl, kc, e4⟩ := slice_form Try.underlying42 e4'
    rw [e4] at e4'
    obtain ⟨ks, rfl, k1, k2, k3, _⟩ := rows_of_trod (k := 1) (en := intCells) (ok := fun _ _ => True) Try.underlying42 cdi (by decide) (fun _ _ _ h => by obtain ⟨a, e0, _⟩ := DataW.trod_int Try.underlying3 h; exact ⟨a, e0, trivial⟩) (fun _ => rfl) e4'
    rw [cdi] at e0 e3
    rw [cdt] at e1 e2
    simp at e0 e1 e2 e3 e4
    subst e0 e1 e2 e3 e4
    refine ⟨⟨a, b.data.toList, c.data.toList, d, ks, ka, kc⟩, ?_, ⟨?_, ?_, wf_hi l3, k3, k1, k2⟩⟩
    · simp only [dopCells, bs_of]
    · simpa using l1
    · simpa using l2
end
def IsDops (w : World) (v : Value) : Prop := IsRows 5 dopCells (fun w o => o.ok w) w v
set_option maxRecDepth 100000 in
open Go.WideShapes Go.ChangeShapes in
theorem open_dops {H : Type} {enc : TypeId × Value → H} {w : World} {r : Reach} {base : Nat} {v : Value} {d : DataW H} {p : List MemPlace}
    (hv : Value.okWide Try.prog w r base 40 v) (h : DataW.Trod enc Try.prog w 0 (fun _ => true) true 40 v d p) : IsDops w v :=
  open_rows Try.underlying40 cdop (by decide) (fun _ _ _ h => dop_cells h) (fun _ => rfl) hv h
/-- THE LAW DiskUsed. -/
theorem diskUsed_walk (W : World) (a0 : Int) (v1 : Value) (w0 : (Lit.int .i64 a0).wf = true) (h1 : IsDops W v1) :
    Calls Try.prog 5 #[.int .i64 a0, v1] W fun e w' => e = .returned (.bool true) ∧ Below W.heap.size W w' := by
  obtain ⟨L, a, cap, rfl, l1, l2, hL, hok⟩ := h1
  exact used_law a0 L a cap W hL hok (Nat.le_trans l1 l2)
end Go.Proofs.Ytbaffabemomgjaa
