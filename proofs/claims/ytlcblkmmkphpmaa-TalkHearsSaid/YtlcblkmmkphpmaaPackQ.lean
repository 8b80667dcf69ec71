/- More of the plain law: what is read, call by call; unlike lists have unlike bytes; how long lists are. Conditions: as each theorem says. -/
import Derived.Test.YtlcblkmmkphpmaaPackP
namespace Go.Proofs.Ytlcblkmmkphpmaa

def fewB (L : List (List UInt8)) : Bool := decide (L.length ≤ 100) && L.all fun s => decide (s.length ≤ 1000)
theorem fewB_len {L : List (List UInt8)} (h : fewB L = true) : L.length ≤ 100 := by
  unfold fewB at h; simp at h; exact h.1
theorem fewB_each {L : List (List UInt8)} (h : fewB L = true) : ∀ s ∈ L, s.length ≤ 1000 := by
  unfold fewB at h; simp at h; exact h.2
theorem numL_len (n : Int) (h1 : -9223372036854775808 ≤ n) (h2 : n ≤ 9223372036854775807) : (numL n).length ≤ 10 := vb_len10 _ (zig_lt n h1 h2)
theorem flat_len (L : List (List UInt8)) (k : Nat) (h : ∀ s ∈ L, (textL s).length ≤ k) : (L.flatMap textL).length ≤ L.length * k := by
  induction L with
  | nil => simp
  | cons a L ih =>
    have h1 := h a (by simp)
    have h2 := ih (fun s hs => h s (by simp [hs]))
    simp only [List.flatMap_cons, List.length_append, List.length_cons, Nat.add_mul]
    omega
theorem fewB_listL {L : List (List UInt8)} (h : fewB L = true) : (listL L).length ≤ 200000 := by
  have h1 := fewB_len h
  have h2 := fewB_each h
  have h3 := numL_len (L.length : Int) (by omega) (by omega)
  have h4 := flat_len L 1010 (fun s hs => by
    have := h2 s hs
    have h5 := numL_len (s.length : Int) (by omega) (by omega)
    unfold textL; simp only [List.length_append]; omega)
  unfold listL; simp only [List.length_append]
  have : L.length * 1010 ≤ 100 * 1010 := Nat.mul_le_mul_right _ h1
  omega

theorem numL_inj (n m : Int) (r q : List UInt8) (hn1 : -9223372036854775808 ≤ n) (hn2 : n ≤ 9223372036854775807) (hm1 : -9223372036854775808 ≤ m) (hm2 : m ≤ 9223372036854775807) (h : numL n ++ r = numL m ++ q) : n = m ∧ r = q := by
  have h1 := dec_num (zig n) (zig_lt n hn1 hn2) r
  have h2 := dec_num (zig m) (zig_lt m hm1 hm2) q
  unfold numL at h
  rw [h, h2] at h1
  simp only [Prod.mk.injEq, true_and] at h1
  refine ⟨?_, h1.2.symm⟩
  rw [← unzig_zig n, ← unzig_zig m, h1.1]
theorem textL_inj (s t r q : List UInt8) (hs : s.length ≤ 9223372036854775807) (ht : t.length ≤ 9223372036854775807) (h : textL s ++ r = textL t ++ q) : s = t ∧ r = q := by
  unfold textL at h
  rw [List.append_assoc, List.append_assoc] at h
  obtain ⟨h1, h2⟩ := numL_inj _ _ _ _ (by omega) (by omega) (by omega) (by omega) h
  have h3 : s.length = t.length := by omega
  exact List.append_inj h2 h3
theorem flat_inj (A : List (List UInt8)) : ∀ B : List (List UInt8), A.length = B.length → (∀ s ∈ A, s.length ≤ 9223372036854775807) → (∀ s ∈ B, s.length ≤ 9223372036854775807) → A.flatMap textL = B.flatMap textL → A = B := by
  induction A with
  | nil => intro B h _ _ _; cases B; rfl; simp at h
  | cons a A ih =>
    intro B h hA hB he
    cases B with
    | nil => simp at h
    | cons b B =>
      simp only [List.flatMap_cons] at he
      obtain ⟨h1, h2⟩ := textL_inj _ _ _ _ (hA a (by simp)) (hB b (by simp)) he
      rw [h1, ih B (by simpa using h) (fun s hs => hA s (by simp [hs])) (fun s hs => hB s (by simp [hs])) h2]
theorem listL_inj (A B : List (List UInt8)) (hA : fewB A = true) (hB : fewB B = true) (h : listL A = listL B) : A = B := by
  have a1 := fewB_len hA
  have b1 := fewB_len hB
  unfold listL at h
  obtain ⟨h1, h2⟩ := numL_inj _ _ _ _ (by omega) (by omega) (by omega) (by omega) h
  exact flat_inj A B (by omega) (fun s hs => by have := fewB_each hA s hs; omega) (fun s hs => by have := fewB_each hB s hs; omega) h2

/-! What a reader answers: 'l' what is left, 'e' what is wrong (0: nothing). -/
structure Rd where
  l : List UInt8
  e : Nat
def numR (r : Rd) : Int × Rd :=
  if r.e ≠ 0 then (0, r) else
  if (dec 0 0 r.l).1 = 0 then (unzig (dec 0 0 r.l).2.1, ⟨(dec 0 0 r.l).2.2, 0⟩) else (0, ⟨r.l, (dec 0 0 r.l).1⟩)
def textR (r : Rd) : List UInt8 × Rd :=
  if (numR r).2.e ≠ 0 then ([], (numR r).2) else
  if (numR r).1 < 0 then ([], ⟨(numR r).2.l, 11⟩) else
  if ((numR r).2.l.length : Int) < (numR r).1 then ([], ⟨(numR r).2.l, 10⟩) else
  ((numR r).2.l.take (numR r).1.toNat, ⟨(numR r).2.l.drop (numR r).1.toNat, 0⟩)
/-- k texts behind those that are read; none where one of them is wrong. -/
def textsR : Nat → List (List UInt8) → Rd → List (List UInt8) × Rd
  | 0, D, r => (D, r)
  | k + 1, D, r => if (textR r).2.e ≠ 0 then ([], (textR r).2) else textsR k (D ++ [(textR r).1]) (textR r).2
def listR (r : Rd) : List (List UInt8) × Rd :=
  if (numR r).2.e ≠ 0 then ([], (numR r).2) else
  if (numR r).1 < 0 ∨ 10000 < (numR r).1 then ([], ⟨(numR r).2.l, 11⟩) else
  textsR (numR r).1.toNat [] (numR r).2
def endR (r : Rd) : Nat := if r.e = 0 ∧ r.l ≠ [] then 12 else r.e

theorem numR_back (n : Int) (r : List UInt8) (h1 : -9223372036854775808 ≤ n) (h2 : n ≤ 9223372036854775807) : numR ⟨numL n ++ r, 0⟩ = (n, ⟨r, 0⟩) := by
  have h := dec_num (zig n) (zig_lt n h1 h2) r
  unfold numR numL
  simp only [ne_eq, not_true_eq_false, if_false, h, if_true, unzig_zig]
theorem textR_back (s r : List UInt8) (h : s.length ≤ 9223372036854775807) : textR ⟨textL s ++ r, 0⟩ = (s, ⟨r, 0⟩) := by
  have hn := numR_back (s.length : Int) (s ++ r) (by omega) (by omega)
  unfold textR textL
  rw [List.append_assoc, hn]
  simp only [ne_eq, not_true_eq_false, if_false]
  rw [if_neg (by omega), if_neg (by simp only [List.length_append]; omega)]
  simp
theorem textsR_back (L : List (List UInt8)) : ∀ (D : List (List UInt8)) (r : List UInt8), (∀ s ∈ L, s.length ≤ 9223372036854775807) → textsR L.length D ⟨L.flatMap textL ++ r, 0⟩ = (D ++ L, ⟨r, 0⟩) := by
  induction L with
  | nil => intro D r _; simp [textsR]
  | cons a L ih =>
    intro D r h
    have ht := textR_back a (L.flatMap textL ++ r) (h a (by simp))
    simp only [List.length_cons, textsR, List.flatMap_cons, List.append_assoc, ht]
    simp only [ne_eq, not_true_eq_false, if_false]
    rw [ih _ _ (fun s hs => h s (by simp [hs]))]
    simp
theorem listR_back (L : List (List UInt8)) (r : List UInt8) (hn : L.length ≤ 10000) (hs : ∀ s ∈ L, s.length ≤ 9223372036854775807) : listR ⟨listL L ++ r, 0⟩ = (L, ⟨r, 0⟩) := by
  have h := numR_back (L.length : Int) (L.flatMap textL ++ r) (by omega) (by omega)
  unfold listR listL
  rw [List.append_assoc, h]
  simp only [ne_eq, not_true_eq_false, if_false]
  rw [if_neg (by omega)]
  have := textsR_back L [] r hs
  simpa using this
end Go.Proofs.Ytlcblkmmkphpmaa
