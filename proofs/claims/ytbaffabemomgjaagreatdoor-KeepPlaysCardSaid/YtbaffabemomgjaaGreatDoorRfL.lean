/- The calls that come in; the law KeepPlays. Conditions: as each theorem says. -/
import Derived.Test.YtbaffabemomgjaaGreatDoorRfK
namespace Go.Proofs.YtbaffabemomgjaaGreatDoor
open Go.RowKit

abbrev KopT : TypeId := 32
theorem ckop : Tryz.prog.cellsOf KopT = 4 := by kernel_rfl
theorem cdi : Tryz.prog.cellsOf 3 = 1 := by kernel_rfl
theorem cdt : Tryz.prog.cellsOf 9 = 1 := by kernel_rfl
theorem wf_hi {n : Int} (h : (Lit.int .i64 n).wf = true) : n < 9223372036854775808 := by
  simp [Lit.wf, IntKind.max, IntKind.min] at h; have := h.2; simp [IntKind.max, IntKind.signed, IntKind.bits] at this; omega
section
open Go.WideShapes Go.ChangeShapes
variable {H : Type} {enc : TypeId × Value → H} {w : World}
set_option maxRecDepth 100000 in
theorem kop_cells {fuel : Nat} {cs : List Value} {x : DataW H × List MemPlace} (h : DataW.trod enc Tryz.prog w 0 (fun _ => true) true fuel KopT cs = some x) : ∃ y : Kop, cs = kopCells y ∧ y.ok := by
  obtain ⟨xs, n, _, _, hl, hlen, hg⟩ := DataW.trod_struct Tryz.underlying32 h
  rw [ckop] at hl
  match cs, hl, xs, hlen with
  | [c0, c1, c2, c3], _, [y0, y1, y2, y3], _ =>
    obtain ⟨a, e0, _, _⟩ := DataW.trod_int Tryz.underlying3 (by simpa using hg 0 _ rfl)
    obtain ⟨b, e1, _, l1⟩ := DataW.trod_string Tryz.underlying9 (by simpa using hg 1 _ rfl)
    obtain ⟨c, e2, _, l2⟩ := DataW.trod_string Tryz.underlying9 (by simpa using hg 2 _ rfl)
    obtain ⟨d, e3, _, l3⟩ := DataW.trod_int Tryz.underlying3 (by simpa using hg 3 _ rfl)
    rw [cdi] at e0 e3
    rw [cdt] at e1 e2
    simp at e0 e1 e2 e3
    subst e0 e1 e2 e3
    refine ⟨⟨a, b.data.toList, c.data.toList, d⟩, ?_, ⟨?_, ?_, wf_hi l3⟩⟩
    · simp only [kopCells, bs_of]
    · simpa using l1
    · simpa using l2
end
def IsKops (w : World) (v : Value) : Prop := IsRows 4 kopCells (fun _ o => o.ok) w v
set_option maxRecDepth 100000 in
open Go.WideShapes Go.ChangeShapes in
theorem open_kops {H : Type} {enc : TypeId × Value → H} {w : World} {r : Reach} {base : Nat} {v : Value} {d : DataW H} {p : List MemPlace}
    (hv : Value.okWide Tryz.prog w r base 22 v) (h : DataW.Trod enc Tryz.prog w 0 (fun _ => true) true 22 v d p) : IsKops w v :=
  open_rows Tryz.underlying22 ckop (by decide) (fun _ _ _ h => kop_cells h) (fun _ => rfl) hv h
/-- THE LAW KeepPlays. -/
theorem keepPlays_walk (W : World) (a0 : Int) (v1 : Value) (w0 : (Lit.int .i64 a0).wf = true) (h1 : IsKops W v1) :
    Calls Tryz.prog 3 #[.int .i64 a0, v1] W fun e w' => e = .returned (.bool true) ∧ Below W.heap.size W w' := by
  obtain ⟨L, a, cap, rfl, l1, l2, hL, hok⟩ := h1
  exact plays_law a0 L a cap W hL hok (Nat.le_trans l1 l2)
end Go.Proofs.YtbaffabemomgjaaGreatDoor
