/- The plain law of histories: which number is ahead, which rows of entries are right, where a number is in one. No program in sight. Conditions: as each theorem says. -/
import Derived.Test.YtkidhbflojlmoaaGreatEnt
namespace Go.Proofs.YtkidhbflojlmoaaGreat

def Ent.z (x : Ent) : Int × Int := (x.e, x.c)
/-- Is a number ahead of another one? -/
def lessZ (a b : Int × Int) : Bool := decide (a.1 < b.1) || (decide (a.1 = b.1) && decide (a.2 < b.2))
theorem lessZ_iff (a b : Int × Int) : lessZ a b = true ↔ a.1 < b.1 ∨ (a.1 = b.1 ∧ a.2 < b.2) := by unfold lessZ; simp
theorem lessZ_trans {a b c : Int × Int} (h : lessZ a b = true) (k : lessZ b c = true) : lessZ a c = true := by
  rw [lessZ_iff] at *; omega
theorem lessZ_irrefl (a : Int × Int) : lessZ a a = false := by
  rw [Bool.eq_false_iff]; intro h; rw [lessZ_iff] at h; omega
theorem lessZ_asymm {a b : Int × Int} (h : lessZ a b = true) : lessZ b a = false := by
  rw [Bool.eq_false_iff]; intro k; rw [lessZ_iff] at *; omega
theorem lessZ_tri {a b : Int × Int} (h : lessZ a b = false) (k : lessZ b a = false) : a = b := by
  rw [Bool.eq_false_iff] at h k
  rw [Ne, lessZ_iff] at h k
  apply Prod.ext <;> omega
/-- Do entries rise, behind a number? -/
def rightL (last : Int × Int) : List Ent → Bool
  | [] => true
  | x :: r => decide (1 ≤ x.e) && decide (1 ≤ x.c) && lessZ last x.z && rightL x.z r
theorem rightL_above (L : List Ent) : ∀ last, rightL last L = true → ∀ x ∈ L, lessZ last x.z = true := by
  induction L with
  | nil => intro last _ x hx; cases hx
  | cons a L ih =>
    intro last h x hx
    simp only [rightL, Bool.and_eq_true] at h
    rcases List.mem_cons.1 hx with rfl | hx
    · exact h.1.2
    · exact lessZ_trans h.1.2 (ih _ h.2 x hx)
theorem rightL_sorted (L : List Ent) : ∀ last, rightL last L = true → ∀ i j (hi : i < L.length) (hj : j < L.length), i < j → lessZ L[i].z L[j].z = true := by
  induction L with
  | nil => intro last _ i j hi; simp at hi
  | cons a L ih =>
    intro last h i j hi hj hij
    simp only [rightL, Bool.and_eq_true] at h
    cases j with
    | zero => omega
    | succ j =>
      cases i with
      | zero =>
        simp only [List.getElem_cons_zero, List.getElem_cons_succ]
        exact rightL_above L _ h.2 _ (List.getElem_mem _)
      | succ i =>
        simp only [List.getElem_cons_succ]
        exact ih _ h.2 i j (by simpa using hi) (by simpa using hj) (by omega)
/-- How many entries there are up to a number. -/
def findN (L : List Ent) (t : Int × Int) : Nat := L.findIdx fun x => lessZ t x.z
theorem findN_le (L : List Ent) (t : Int × Int) : findN L t ≤ L.length := List.findIdx_le_length
theorem findN_below (L : List Ent) (t : Int × Int) (i : Nat) (hi : i < L.length) (h : i < findN L t) : lessZ t L[i].z = false := by
  have := List.not_of_lt_findIdx (p := fun x : Ent => lessZ t x.z) h
  simpa using this
theorem findN_at (L : List Ent) (t : Int × Int) (h : findN L t < L.length) : lessZ t (L[findN L t]'h).z = true := by
  exact List.findIdx_getElem (p := fun x : Ent => lessZ t x.z) (w := h)
/-- Does the number stand there? -/
def findB (L : List Ent) (t : Int × Int) : Bool := decide (0 < findN L t) && decide ((L.getD (findN L t - 1) default).z = t)
theorem splits_law (L : List Ent) (t : Int × Int) (hr : rightL (0, 0) L = true) (i : Nat) (hi : i < L.length) : lessZ t L[i].z = decide (findN L t ≤ i) := by
  by_cases h : findN L t ≤ i
  · rw [decide_eq_true h]
    have hn : findN L t < L.length := by omega
    have h1 := findN_at L t hn
    rcases Nat.lt_or_ge (findN L t) i with h2 | h2
    · exact lessZ_trans h1 (rightL_sorted L _ hr _ _ hn hi h2)
    · have e : findN L t = i := by omega
      simp only [e] at h1
      exact h1
  · rw [decide_eq_false h]
    exact findN_below L t i hi (by omega)
theorem has_law (L : List Ent) (t : Int × Int) (hr : rightL (0, 0) L = true) : findB L t = L.any fun x => decide (x.z = t) := by
  rw [Bool.eq_iff_iff, List.any_eq_true]
  unfold findB
  simp only [Bool.and_eq_true, decide_eq_true_eq]
  have hle := findN_le L t
  constructor
  · rintro ⟨h1, h2⟩
    have hi : findN L t - 1 < L.length := by omega
    refine ⟨L[findN L t - 1], List.getElem_mem _, ?_⟩
    have e : L.getD (findN L t - 1) default = L[findN L t - 1] := by simp [List.getD, hi]
    rw [e] at h2
    exact h2
  · rintro ⟨x, hx, hxt⟩
    obtain ⟨i, hi, rfl⟩ := List.getElem_of_mem hx
    have h1 : lessZ t L[i].z = false := by rw [← hxt]; exact lessZ_irrefl _
    rw [splits_law L t hr i hi] at h1
    have h2 : ¬ findN L t ≤ i := of_decide_eq_false h1
    have hn : findN L t - 1 < L.length := by omega
    refine ⟨by omega, ?_⟩
    have h3 := findN_below L t (findN L t - 1) hn (by omega)
    have e : findN L t - 1 = i := by
      rcases Nat.lt_or_ge i (findN L t - 1) with h4 | h4
      · have h5 := rightL_sorted L _ hr i (findN L t - 1) hi hn h4
        rw [hxt] at h5
        rw [h5] at h3
        exact absurd h3 (by simp)
      · omega
    have e2 : L.getD (findN L t - 1) default = L[i] := by rw [e]; simp [List.getD, hi]
    rw [e2, hxt]
end Go.Proofs.YtkidhbflojlmoaaGreat
