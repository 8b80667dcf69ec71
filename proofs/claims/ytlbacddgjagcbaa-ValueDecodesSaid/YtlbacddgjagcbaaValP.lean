/- The law ValueOrders. Conditions: as each theorem says. -/
import Derived.Test.YtlbacddgjagcbaaValOO
namespace Go.Proofs.Ytlbacddgjagcbaa
open Go.RowKit

theorem less_is (a b : Int × Int) (r : Bool) (h : lessZ a b = r) : ∀ X, Calls Try.prog 41 #[.agg #[.int .i64 a.1, .int .i64 a.2], .agg #[.int .i64 b.1, .int .i64 b.2]] X fun e w' => e = .returned (.bool r) ∧ Below X.heap.size X w' := fun X => by
  have := less_any a b X
  rw [h] at this
  exact this
theorem refless_is (a b : Int × Int) (r : Bool) (h : lessZ a b = r) : ∀ X, Calls Try.prog 42 #[.agg #[.int .i64 a.1, .int .i64 a.2], .agg #[.int .i64 b.1, .int .i64 b.2]] X fun e w' => e = .returned (.bool r) ∧ Below X.heap.size X w' := fun X => by
  have := refless_any a b X
  rw [h] at this
  exact this
theorem z_unlike {a b : Int × Int} (h : a ≠ b) : ((a.1 == b.1) = true ∧ (a.2 == b.2) = false) ∨ (a.1 == b.1) = false := by
  by_cases h1 : a.1 = b.1
  · have h2 : a.2 ≠ b.2 := fun h2 => h (Prod.ext h1 h2)
    exact .inl ⟨by simpa using h1, by simpa using h2⟩
  · exact .inr (by simpa using h1)
/-- THE LAW. -/
theorem valueOrders_walk (W : World) (v0 v1 v2 : Value) (h0 : IsZ v0) (h1 : IsZ v1) (h2 : IsZ v2) :
    Calls Try.prog 12 #[v0, v1, v2] W fun e w' => e = .returned (.bool true) ∧ Below W.heap.size W w' := by
  obtain ⟨a, rfl, _, _⟩ := h0
  obtain ⟨b, rfl, _, _⟩ := h1
  obtain ⟨c, rfl, _, _⟩ := h2
  cases hx : lessZ a b
  · cases hz : lessZ b a
    · have he := lessZ_tri hx hz
      subst he
      exact orders_same a.1 a.2 a.1 a.2 c.1 c.2 (lessZ a c) W (by simp) (by simp) (less_is _ _ _ hx) (less_is _ _ _ rfl) (less_is _ _ _ hz) (refless_is _ _ _ hx) (plain_any _) (plain_any _)
    · exact orders_no a.1 a.2 b.1 b.2 c.1 c.2 (lessZ b c) W (z_unlike fun h => by rw [h, lessZ_irrefl] at hz; cases hz) (less_is _ _ _ hx) (less_is _ _ _ rfl) (less_is _ _ _ hz) (refless_is _ _ _ hx) (plain_any _) (plain_any _)
  · have hz := lessZ_asymm hx
    have hn : a ≠ b := fun h => by rw [h, lessZ_irrefl] at hx; cases hx
    cases hy : lessZ b c
    · exact orders_yes a.1 a.2 b.1 b.2 c.1 c.2 W (z_unlike hn) (less_is _ _ _ hx) (less_is _ _ _ hy) (less_is _ _ _ hz) (refless_is _ _ _ hx) (plain_any _) (plain_any _)
    · exact orders_both a.1 a.2 b.1 b.2 c.1 c.2 W (z_unlike hn) (less_is _ _ _ hx) (less_is _ _ _ hy) (less_is _ _ _ hz) (less_is _ _ _ (lessZ_trans hx hy)) (refless_is _ _ _ hx) (plain_any _) (plain_any _)
end Go.Proofs.Ytlbacddgjagcbaa
