/- The walk of hist.Last. Conditions: as each theorem says. -/
import Derived.Test.YtkidhbflojlmoaaGreatHistA
import Derived.Deep.RegionHeld3
import Derived.Deep.DrawnRows
namespace Go.Proofs.YtkidhbflojlmoaaGreat
open Go.RowKit

set_option maxRecDepth 100000 in
set_option maxHeartbeats 400000 in
theorem hlast_any (L : List Ent) (a : Option Addr) (cap : Nat) (w : World) (hL : EntsAt w (.slice a L.length cap) L) (hn : L.length ≤ 9223372036854775807) :
    Calls Tryz.prog 54 #[.slice a L.length cap] w fun e w' => e = .returned (zxidV (lastZ L)) ∧ Below w.heap.size w w' := by
  have hb : ∀ o, Below w.heap.size w (w.alloc o) := fun o => (Below.refl _ w).alloc (Nat.le_refl _) _
  have HB := Lib.hid hb
  clear hb
  unfold zxidV
  by_cases h0 : L.length = 0
  · as_aux_lemma =>
    have hl : lastZ L = (0, 0) := by rw [List.eq_nil_of_length_eq_zero h0]; rfl
    rw [hl]
    have h1 : L.length ≤ 0 := by omega
    clear h0 hl hL
    go_enter Tryz.func54, Tryz.ntmps54
    go_wp2
    exact bodyPost_ret (v := .agg #[.int .i64 0, .int .i64 0]) (by simp [results, Tryz.results54, go_sem]) rfl ⟨rfl, HB.out _⟩
  · as_aux_lemma =>
    have hi : L.length - 1 < L.length := by omega
    obtain ⟨bb, off, rfl, e0, e1, e2⟩ := ents_get hL (L.length - 1) hi
    have hl : lastZ L = (L[L.length - 1].e, L[L.length - 1].c) := by
      unfold lastZ
      rw [List.getLast?_eq_getElem?, List.getElem?_eq_getElem hi]; rfl
    rw [hl]
    have h1 : 1 ≤ L.length := by omega
    generalize L[L.length - 1] = x at *
    have e0' : ∀ o, (w.alloc o).cell? ⟨bb, off + (L.length - 1) * 3, none⟩ = some (.int .i64 x.e) := fun o => Grew.cell (HB.out o) e0
    have e1' : ∀ o, (w.alloc o).cell? ⟨bb, off + (L.length - 1) * 3 + 1, none⟩ = some (.int .i64 x.c) := fun o => Grew.cell (HB.out o) e1
    clear hl h0 hi e0 e1 e2 hL
    go_enter Tryz.func54, Tryz.ntmps54
    go_wp2
    exact bodyPost_ret (v := .agg #[.int .i64 x.e, .int .i64 x.c]) (by simp [results, Tryz.results54, go_sem]) rfl ⟨rfl, HB.out _⟩
end Go.Proofs.YtkidhbflojlmoaaGreat
