/- The walks of ValueOrders. Conditions: as each theorem says. -/
import Derived.Test.YtlbacddgjagcbaaValE
import Derived.Deep.RegionHeld3
import Derived.Lib.SmallJoins
namespace Go.Proofs.Ytlbacddgjagcbaa
open Go.RowKit

/-- Is a number ahead of another one? -/
def lessZ (a b : Int × Int) : Bool := decide (a.1 < b.1) || (decide (a.1 = b.1) && decide (a.2 < b.2))
theorem lessZ_iff (a b : Int × Int) : lessZ a b = true ↔ a.1 < b.1 ∨ (a.1 = b.1 ∧ a.2 < b.2) := by unfold lessZ; simp
theorem lessZ_trans {a b c : Int × Int} (h : lessZ a b = true) (k : lessZ b c = true) : lessZ a c = true := by
  rw [lessZ_iff] at *; omega
theorem lessZ_irrefl (a : Int × Int) : lessZ a a = false := by
  rw [Bool.eq_false_iff]; intro h; rw [lessZ_iff] at h; omega
theorem lessZ_asymm {a b : Int × Int} (h : lessZ a b = true) : lessZ b a = false := by
  rw [Bool.eq_false_iff]; intro k; rw [lessZ_iff] at *; omega
theorem lessZ_tri {a b : Int × Int} (h : lessZ a b = false) (k : lessZ b a = false) : a = b := by
  rw [Bool.eq_false_iff] at h k
  rw [Ne, lessZ_iff] at h k
  apply Prod.ext <;> omega
set_option maxRecDepth 100000 in
theorem less_any (a b : Int × Int) (w : World) :
    Calls Try.prog 41 #[zxidV a, zxidV b] w fun e w' => e = .returned (.bool (lessZ a b)) ∧ Below w.heap.size w w' := by
  obtain ⟨a1, a2⟩ := a
  obtain ⟨b1, b2⟩ := b
  have hb : ∀ o1 o2, Below w.heap.size w ((w.alloc o1).alloc o2) := fun o1 o2 => ((Below.refl _ w).alloc (Nat.le_refl _) _).alloc (by simp) _
  have HB := Lib.hid hb
  clear hb
  unfold zxidV
  by_cases h1 : a1 < b1
  · as_aux_lemma =>
    have hl : lessZ (a1, a2) (b1, b2) = true := by rw [lessZ_iff]; exact .inl h1
    rw [hl]
    go_enter Try.func41, Try.ntmps41
    go_wp2
    go_ret
    exact ⟨rfl, HB.out _ _⟩
  · by_cases h2 : a1 = b1
    · subst h2
      by_cases h3 : a2 < b2
      · as_aux_lemma =>
        have hl : lessZ (a1, a2) (a1, b2) = true := by rw [lessZ_iff]; exact .inr ⟨rfl, h3⟩
        rw [hl]
        go_enter Try.func41, Try.ntmps41
        go_wp2
        go_ret
        exact ⟨rfl, HB.out _ _⟩
      · as_aux_lemma =>
        have hl : lessZ (a1, a2) (a1, b2) = false := by rw [Bool.eq_false_iff]; intro h; rw [lessZ_iff] at h; simp only at h; omega
        rw [hl]
        go_enter Try.func41, Try.ntmps41
        go_wp2
        go_ret
        exact ⟨rfl, HB.out _ _⟩
    · as_aux_lemma =>
      have hl : lessZ (a1, a2) (b1, b2) = false := by rw [Bool.eq_false_iff]; intro h; rw [lessZ_iff] at h; simp only at h; omega
      have h3 : (a1 == b1) = false := by rw [beq_eq_false_iff_ne]; exact h2
      rw [hl]
      go_enter Try.func41, Try.ntmps41
      go_wp2
      go_ret
      exact ⟨rfl, HB.out _ _⟩
set_option maxRecDepth 100000 in
theorem refless_any (a b : Int × Int) (w : World) :
    Calls Try.prog 42 #[zxidV a, zxidV b] w fun e w' => e = .returned (.bool (lessZ a b)) ∧ Below w.heap.size w w' := by
  obtain ⟨a1, a2⟩ := a
  obtain ⟨b1, b2⟩ := b
  have hb : ∀ o1 o2, Below w.heap.size w ((w.alloc o1).alloc o2) := fun o1 o2 => ((Below.refl _ w).alloc (Nat.le_refl _) _).alloc (by simp) _
  have HB := Lib.hid hb
  clear hb
  unfold zxidV
  by_cases h1 : a1 < b1
  · as_aux_lemma =>
    have hl : lessZ (a1, a2) (b1, b2) = true := by rw [lessZ_iff]; exact .inl h1
    rw [hl]
    go_enter Try.func42, Try.ntmps42
    go_wp2
    go_ret
    exact ⟨rfl, HB.out _ _⟩
  · by_cases h2 : a1 = b1
    · subst h2
      by_cases h3 : a2 < b2
      · as_aux_lemma =>
        have hl : lessZ (a1, a2) (a1, b2) = true := by rw [lessZ_iff]; exact .inr ⟨rfl, h3⟩
        rw [hl]
        go_enter Try.func42, Try.ntmps42
        go_wp2
        go_ret
        exact ⟨rfl, HB.out _ _⟩
      · as_aux_lemma =>
        have hl : lessZ (a1, a2) (a1, b2) = false := by rw [Bool.eq_false_iff]; intro h; rw [lessZ_iff] at h; simp only at h; omega
        rw [hl]
        go_enter Try.func42, Try.ntmps42
        go_wp2
        go_ret
        exact ⟨rfl, HB.out _ _⟩
    · as_aux_lemma =>
      have hl : lessZ (a1, a2) (b1, b2) = false := by rw [Bool.eq_false_iff]; intro h; rw [lessZ_iff] at h; simp only at h; omega
      have h3 : (a1 == b1) = false := by rw [beq_eq_false_iff_ne]; exact h2
      rw [hl]
      go_enter Try.func42, Try.ntmps42
      go_wp2
      go_ret
      exact ⟨rfl, HB.out _ _⟩
set_option maxRecDepth 100000 in
theorem plain_any (z : Int × Int) (w : World) : Calls Try.prog 43 #[zxidV z] w fun e w' => e = .returned (zxidV z) ∧ Below w.heap.size w w' := by
  obtain ⟨a, b⟩ := z
  unfold zxidV
  have HB : Hid (∀ o1 o2, Below w.heap.size w ((w.alloc o1).alloc o2)) := fun o1 o2 => ((Below.refl _ w).alloc (Nat.le_refl _) _).alloc (by simp) _
  go_enter Try.func43, Try.ntmps43
  go_wp2
  exact bodyPost_ret (v := .agg #[.int .i64 a, .int .i64 b]) (by simp [results, Try.results43, go_sem]) rfl ⟨rfl, HB.out _ _⟩
def IsZ (v : Value) : Prop := ∃ t : Int × Int, v = zxidV t ∧ (Lit.int .i64 t.1).wf = true ∧ (Lit.int .i64 t.2).wf = true
set_option maxRecDepth 100000 in
open Go.WideShapes Go.ChangeShapes Go.Joins in
theorem open_z {H : Type} {enc : TypeId × Value → H} {w : World} {r : Reach} {base : Nat} {v : Value} {d : DataW H} {p : List MemPlace}
    (hv : Value.okWide Try.prog w r base 59 v) (h : DataW.Trod enc Try.prog w 0 (fun _ => true) true 59 v d p) : IsZ v := by
  obtain ⟨c0, c1, y0, y1, m, rfl, _, _, hy0, hy1⟩ := open_agg2 Try.underlying59 (by kernel_rfl) (by kernel_rfl : Try.prog.cellsOf 59 = 2) hv h
  obtain ⟨a, e0, _, wa⟩ := DataW.trod_int Try.underlying3 hy0
  obtain ⟨b, e1, _, wb⟩ := DataW.trod_int Try.underlying3 hy1
  simp at e0 e1
  subst e0 e1
  exact ⟨(a, b), rfl, wa, wb⟩
end Go.Proofs.Ytlbacddgjagcbaa
