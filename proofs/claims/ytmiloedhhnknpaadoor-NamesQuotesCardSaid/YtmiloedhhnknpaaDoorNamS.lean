/- What the rows' condition on five laid variables gives the walks. Conditions: as each theorem says. -/
import Derived.Test.YtmiloedhhnknpaaDoorNamK
namespace Go.Proofs.YtmiloedhhnknpaaDoor
open Go.RowKit

theorem laid_of_laid {W : World} (hp : (((("math/bits.deBruijn32tab", Rows.laid_math_bits_deBruijn32tab) :: ("math/bits.deBruijn64tab", Rows.laid_math_bits_deBruijn64tab) :: ("internal/strconv.uint64pow10", Rows.laid_internal_strconv_uint64pow10) :: ("strconv.ErrRange", Rows.laid_strconv_ErrRange) :: ("strconv.ErrSyntax", Rows.laid_strconv_ErrSyntax) :: [] : List (String × DataW Unit))).all fun x => x.2.handleName?.isNone) = true)
    (h : laidMetH Tryd.prog (("math/bits.deBruijn32tab", Rows.laid_math_bits_deBruijn32tab) :: ("math/bits.deBruijn64tab", Rows.laid_math_bits_deBruijn64tab) :: ("internal/strconv.uint64pow10", Rows.laid_internal_strconv_uint64pow10) :: ("strconv.ErrRange", Rows.laid_strconv_ErrRange) :: ("strconv.ErrSyntax", Rows.laid_strconv_ErrSyntax) :: []) W) : LaidAt W := by
  refine ⟨deb_of_laid hp h, ?_⟩
  rw [MakeChecks.laidMetH_plain _ _ _ hp] at h
  obtain ⟨ps, ⟨g0, t0, cs0, f0, p0, q0, hg0, ht0, hv0, hd0, ⟨g1, t1, cs1, f1, p1, q1, hg1, ht1, hv1, hd1, ⟨g2, t2, cs2, f2, p2, q2, hg2, ht2, hv2, hd2, ⟨g3, t3, cs3, f3, p3, q3, hg3, ht3, hv3, hd3, ⟨g4, t4, cs4, f4, p4, q4, hg4, ht4, hv4, hd4, _, _⟩, _⟩, _⟩, _⟩, _⟩, _, _⟩ := h
  have n3 : Tryd.prog.globalNamed "strconv.ErrRange" = some 3 := by kernel_rfl
  have n4 : Tryd.prog.globalNamed "strconv.ErrSyntax" = some 2 := by kernel_rfl
  have y3 : (Tryd.prog.globals[3]?).map (·.type) = some 38 := by kernel_rfl
  have y4 : (Tryd.prog.globals[2]?).map (·.type) = some 38 := by kernel_rfl
  obtain rfl := Option.some.inj (n3.symm.trans hg3)
  obtain rfl := Option.some.inj (n4.symm.trans hg4)
  obtain rfl := Option.some.inj (y3.symm.trans ht3)
  obtain rfl := Option.some.inj (y4.symm.trans ht4)
  refine ⟨?_, ?_⟩
  · obtain ⟨f', u, v, hc, _, _⟩ := iface_of_trod Tryd.underlying38 hd4
    have hcell := World.var?_cell n4 hv4 0
    rw [← Array.getElem?_toList, hc] at hcell
    exact ⟨_, hcell, .inr ⟨u, v, rfl⟩⟩
  · obtain ⟨f', u, v, hc, _, _⟩ := iface_of_trod Tryd.underlying38 hd3
    have hcell := World.var?_cell n3 hv3 0
    rw [← Array.getElem?_toList, hc] at hcell
    exact ⟨_, hcell, .inr ⟨u, v, rfl⟩⟩
end Go.Proofs.YtmiloedhhnknpaaDoor
