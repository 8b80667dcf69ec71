/- Plain: what is read may be written again. No program in sight. Conditions: as each theorem says. -/
import Derived.Test.YtlcblkmmkphpmaaTalC
namespace Go.Proofs.Ytlcblkmmkphpmaa

/-- Whatever is read, right or wrong, may be written. -/
def Cod.good {α : Type} (c : Cod α) : Prop := ∀ r, Bd r → c.ok (c.rd r).1
theorem numC_good : numC.good := fun r _ => numR_bd r
theorem flagC_good : flagC.good := fun _ _ => trivial
theorem textC_good : textC.good := by
  intro r hr
  show (textR r).1.length ≤ 9223372036854775807
  unfold textR
  have hl := numR_len r
  split
  · simp
  · split
    · simp
    · split
      · simp
      · simp only [List.length_take]
        have : r.l.length ≤ 9223372036854775807 := hr
        omega
theorem pair_good {α β : Type} {a : Cod α} {b : Cod β} (ha : a.good) (sa : a.shr) (hb : b.good) : (a.pair b).good := fun r hr => ⟨ha r hr, hb _ (Nat.le_trans (sa r) hr)⟩
theorem iso_good {α β : Type} {a : Cod α} (ha : a.good) (f : α → β) (g : β → α) (h1 : ∀ x, f (g x) = x) (h2 : ∀ x, g (f x) = x) : (a.iso f g h1 h2).good := fun r hr => by
  show a.ok (g (f (a.rd r).1))
  rw [h2]
  exact ha r hr
theorem items_good {α : Type} {a : Cod α} (ha : a.good) (sa : a.shr) : ∀ (k : Nat) (r : Rd), Bd r → (itemsR a.rd k r).1.length ≤ k ∧ ∀ x ∈ (itemsR a.rd k r).1, a.ok x := by
  intro k
  induction k with
  | zero => intro r _; exact ⟨Nat.le_refl _, by intro x hx; cases hx⟩
  | succ k ih =>
    intro r hr
    rw [itemsR]
    split
    · exact ⟨Nat.zero_le _, by intro x hx; cases hx⟩
    · obtain ⟨h1, h2⟩ := ih _ (show Bd (a.rd r).2 from Nat.le_trans (sa r) hr)
      refine ⟨by simp only [List.length_cons]; omega, fun x hx => ?_⟩
      rcases List.mem_cons.1 hx with rfl | hx
      · exact ha r hr
      · exact h2 x hx
theorem many_le (r : Rd) : (manyR r).1 ≤ 10000 := by
  unfold manyR
  split
  · simp
  · split
    · simp
    · simp only; omega
theorem list_good {α : Type} {a : Cod α} (ha : a.good) (sa : a.shr) : a.list.good := fun r hr => by
  obtain ⟨h1, h2⟩ := items_good ha sa (manyR r).1 (manyR r).2 (Nat.le_trans (many_len r) hr)
  exact ⟨Nat.le_trans h1 (many_le r), h2⟩
theorem rgC_good : rgC.good := iso_good (pair_good textC_good textC_shr (pair_good textC_good textC_shr (pair_good numC_good numC_shr (pair_good numC_good numC_shr (pair_good flagC_good flagC_shr (pair_good flagC_good flagC_shr flagC_good)))))) _ _ _ _
theorem cpC_good : cpC.good := iso_good (pair_good textC_good textC_shr (pair_good numC_good numC_shr (pair_good numC_good numC_shr (pair_good numC_good numC_shr textC_good)))) _ _ _ _
theorem opC_good : opC.good := iso_good (pair_good numC_good numC_shr (pair_good rgC_good rgC_shr (pair_good textC_good textC_shr numC_good))) _ _ _ _
theorem kvC_good : kvC.good := iso_good (pair_good textC_good textC_shr (pair_good textC_good textC_shr (pair_good numC_good numC_shr (pair_good numC_good numC_shr (pair_good numC_good numC_shr numC_good))))) _ _ _ _
theorem anC_good : anC.good := iso_good (pair_good numC_good numC_shr (pair_good (list_good kvC_good kvC_shr) (list_shr kvC_shr) (pair_good numC_good numC_shr flagC_good))) _ _ _ _
theorem rqC_good : rqC.good := iso_good (pair_good numC_good numC_shr (pair_good (list_good cpC_good cpC_shr) (list_shr cpC_shr) (pair_good (list_good opC_good opC_shr) (list_shr opC_shr) (pair_good (list_good opC_good opC_shr) (list_shr opC_shr) (pair_good numC_good numC_shr (pair_good numC_good numC_shr numC_good)))))) _ _ _ _
theorem rsC_good : rsC.good := iso_good (pair_good numC_good numC_shr (pair_good numC_good numC_shr (pair_good flagC_good flagC_shr (pair_good (list_good anC_good anC_shr) (list_shr anC_shr) numC_good)))) _ _ _ _
theorem zeroReq_ok : rqC.ok zeroReq := ⟨by show i64 0; unfold i64; omega, ⟨by simp [zeroReq], by simp [zeroReq]⟩, ⟨by simp [zeroReq], by simp [zeroReq]⟩, ⟨by simp [zeroReq], by simp [zeroReq]⟩, by show i64 0; unfold i64; omega, by show i64 0; unfold i64; omega, by show i64 0; unfold i64; omega⟩
theorem zeroRg_ok : rgC.ok zeroRg := ⟨by show ([] : Byt).length ≤ _; simp, by show ([] : Byt).length ≤ _; simp, by show i64 0; unfold i64; omega, by show i64 0; unfold i64; omega, trivial, trivial, trivial⟩
theorem zeroRes_ok : rsC.ok zeroRes := ⟨by show i64 0; unfold i64; omega, by show i64 0; unfold i64; omega, trivial, ⟨by simp [zeroRes], by simp [zeroRes]⟩, by show i64 0; unfold i64; omega⟩
theorem i64_0 : i64 0 := by unfold i64; omega
theorem flag_bd (r : Rd) (hr : Bd r) : Bd (flagR r).2 := Nat.le_trans (flagR_len r) hr
theorem num_bd (r : Rd) (hr : Bd r) : Bd (numR r).2 := Nat.le_trans (numR_len r) hr
theorem askR_good (r : Rd) (hr : Bd r) : i64 (askR r).1.client ∧ i64 (askR r).1.seq ∧ rqC.ok (askR r).1.req ∧ rgC.ok (askR r).1.rg := by
  unfold askR
  split
  · exact ⟨numR_bd _, numR_bd _, zeroReq_ok, rgC_good _ (flag_bd _ (num_bd _ (num_bd _ hr)))⟩
  · exact ⟨numR_bd _, numR_bd _, rqC_good _ (flag_bd _ (num_bd _ (num_bd _ hr))), zeroRg_ok⟩
theorem parse_good (l : Byt) (hl : l.length ≤ 9223372036854775807) : i64 (parseL l).1.client ∧ i64 (parseL l).1.seq ∧ rqC.ok (parseL l).1.req ∧ rgC.ok (parseL l).1.rg := by
  have h := askR_good ⟨l, 0⟩ hl
  unfold parseL
  generalize askR ⟨l, 0⟩ = q at *
  by_cases he : endR q.2 = 0
  · rw [if_pos he]; exact h
  · rw [if_neg he]; exact ⟨i64_0, i64_0, zeroReq_ok, zeroRg_ok⟩
theorem hear_good (l : Byt) (hl : l.length ≤ 9223372036854775807) : rsC.ok (hearL l).1 := by
  have h := rsC_good ⟨l, 0⟩ hl
  unfold hearL
  generalize rsC.rd ⟨l, 0⟩ = q at *
  by_cases he : endR q.2 = 0
  · rw [if_pos he]; exact h
  · rw [if_neg he]; exact zeroRes_ok
end Go.Proofs.Ytlcblkmmkphpmaa
