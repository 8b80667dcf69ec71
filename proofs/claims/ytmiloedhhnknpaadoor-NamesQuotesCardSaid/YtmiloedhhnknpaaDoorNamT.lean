/- What the rows' condition on the laid variables gives the walks: the table's cell; and a heap that meets it. Conditions: as each theorem says. -/
import Derived.Test.YtmiloedhhnknpaaDoorNamZ
import Derived.Lib.LaidTab
import Derived.LaidMore
import Derived.LaidLaws
import Derived.MakeChecks
import Derived.Lib.TrailingZeros
import Derived.Shelf.Spec.TrailingZeros
namespace Go.Proofs.YtmiloedhhnknpaaDoor
open Go.RowKit

theorem tab64 : Rows.laid_math_bits_deBruijn64tab = (Lib.tabData .u8 (Lib.deBruijn64tab.map fun n : Nat => (n : Int)) : DataW Unit) := by kernel_rfl
theorem deb_of_laid {rest : List (String × DataW Unit)} {W : World} (hp : (((("math/bits.deBruijn32tab", Rows.laid_math_bits_deBruijn32tab) :: ("math/bits.deBruijn64tab", Rows.laid_math_bits_deBruijn64tab) :: rest : List (String × DataW Unit))).all fun x => x.2.handleName?.isNone) = true)
    (h : laidMetH Tryd.prog (("math/bits.deBruijn32tab", Rows.laid_math_bits_deBruijn32tab) :: ("math/bits.deBruijn64tab", Rows.laid_math_bits_deBruijn64tab) :: rest) W) : DebAt W := by
  rw [MakeChecks.laidMetH_plain _ _ _ hp] at h
  obtain ⟨ps, ⟨g0, t0, cs0, f0, p0, q0, hg0, ht0, hv0, hd0, ⟨g, t, cs, f, p, q, hg, ht, hv, hd, _, _⟩, _⟩, _, _⟩ := h
  have hgn : Tryd.prog.globalNamed "math/bits.deBruijn64tab" = some 5 := by kernel_rfl
  have htn : (Tryd.prog.globals[5]?).map (·.type) = some 84 := by kernel_rfl
  obtain rfl := Option.some.inj (hgn.symm.trans hg)
  obtain rfl := Option.some.inj (htn.symm.trans ht)
  rw [tab64] at hd
  have hc := Lib.cells_of_tab (n := 64) (e := 5) (by kernel_rfl) Tryd.underlying5 (by kernel_rfl) (by kernel_rfl) hd
  have hcell := World.var?_cell hgn hv 15
  rw [← Array.getElem?_toList, hc] at hcell
  exact hcell
end Go.Proofs.YtmiloedhhnknpaaDoor
