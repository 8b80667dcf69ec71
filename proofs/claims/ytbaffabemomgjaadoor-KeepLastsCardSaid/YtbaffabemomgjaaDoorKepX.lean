/- Lists that come in; the law KeepLasts. Conditions: as each theorem says. -/
import Derived.Test.YtbaffabemomgjaaDoorKepS
namespace Go.Proofs.YtbaffabemomgjaaDoor
open Go.RowKit

theorem cdi : Tryd.prog.cellsOf 3 = 1 := by kernel_rfl
def IsTexts (w : World) (v : Value) : Prop := IsRows 1 strCells (fun _ (x : Bys) => x.length ≤ maxLen) w v
def IsNums (w : World) (v : Value) : Prop := IsRows 1 intCells (fun _ (x : Int) => x < 9223372036854775808) w v
section
open Go.WideShapes Go.ChangeShapes
variable {H : Type} {enc : TypeId × Value → H} {w : World} {r : Reach} {base : Nat} {v : Value} {d : DataW H} {p : List MemPlace}
set_option maxRecDepth 100000 in
theorem open_texts (hv : Value.okWide Tryd.prog w r base 33 v) (h : DataW.Trod enc Tryd.prog w 0 (fun _ => true) true 33 v d p) : IsTexts w v :=
  open_rows Tryd.underlying33 cdt (by decide) (fun fuel cs x hx => by
    obtain ⟨a, e, _, l⟩ := DataW.trod_string Tryd.underlying9 hx
    exact ⟨a.data.toList, by rw [e]; simp [strCells, strV, bs_of], by simpa using l⟩) (fun _ => rfl) hv h
set_option maxRecDepth 100000 in
theorem open_nums (hv : Value.okWide Tryd.prog w r base 37 v) (h : DataW.Trod enc Tryd.prog w 0 (fun _ => true) true 37 v d p) : IsNums w v :=
  open_rows Tryd.underlying37 cdi (by decide) (fun fuel cs x hx => by
    obtain ⟨a, e, _, l⟩ := DataW.trod_int Tryd.underlying3 hx
    exact ⟨a, e, wf_hi l⟩) (fun _ => rfl) hv h
end
/-- THE LAW KeepLasts. -/
theorem keepLasts_walk (W : World) (v0 v1 v2 : Value) (h0 : IsTexts W v0) (h1 : IsNums W v1) (h2 : IsNums W v2) :
    Calls Tryd.prog 5 #[v0, v1, v2] W fun e w' => e = .returned (.bool true) ∧ Below W.heap.size W w' := by
  obtain ⟨L, la, lc, rfl, l1, l2, hL, hLx⟩ := h0
  obtain ⟨A, aa, ac, rfl, a1, a2, hA, hAx⟩ := h1
  obtain ⟨ks, ka, kc, rfl, k1, k2, hK, hKx⟩ := h2
  exact lasts_law L A ks la aa ka lc ac kc W hL hA hK (by omega) (by omega) k1 k2 hLx hAx
end Go.Proofs.YtbaffabemomgjaaDoor
