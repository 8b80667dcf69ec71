/- The plain law of Plan: what the code does is what the document says, of a right history of a begin below it. Conditions: as each theorem says. -/
import Derived.Test.YtaahbfcnccmcoaaHistM
namespace Go.Proofs.Ytaahbfcnccmcoaa
open Go.RowKit

theorem last_of (L : List Ent) (h : 0 < L.length) : lastZ L = (L[L.length - 1]'(by omega)).z := by
  unfold lastZ
  rw [List.getLast?_eq_getElem?, List.getElem?_eq_getElem (by omega)]
theorem find_last (L : List Ent) (hr : rightL (0, 0) L = true) (h : 0 < L.length) : findN L (lastZ L) = L.length ∧ findB L (lastZ L) = true := by
  have hl := last_of L h
  constructor
  · have hle := findN_le L (lastZ L)
    rcases Nat.lt_or_ge (findN L (lastZ L)) L.length with h1 | h1
    · exfalso
      have h2 := findN_at L (lastZ L) h1
      rcases Nat.lt_or_ge (findN L (lastZ L)) (L.length - 1) with h3 | h3
      · have h4 := rightL_sorted L _ hr _ _ h1 (by omega : L.length - 1 < L.length) h3
        rw [← hl] at h4
        have h5 := lessZ_trans h2 h4
        rw [lessZ_irrefl] at h5
        exact absurd h5 (by simp)
      · have key : ∀ (j : Nat) (hj : j < L.length), j = L.length - 1 → L[j].z = lastZ L := by
          intro j hj e
          subst e
          exact hl.symm
        have e := key _ h1 (by omega)
        rw [e, lessZ_irrefl] at h2
        exact absurd h2 (by simp)
    · omega
  · rw [has_law L _ hr, List.any_eq_true]
    exact ⟨L[L.length - 1]'(by omega), List.getElem_mem _, by simp [hl]⟩
theorem above_begin (L : List Ent) (b : Int × Int) (hr : rightL (0, 0) L = true) (hb : ∀ h : 0 < L.length, lessZ b L[0].z = true) : ∀ x ∈ L, lessZ b x.z = true := by
  intro x hx
  obtain ⟨i, hi, rfl⟩ := List.getElem_of_mem hx
  have h0 := hb (by omega)
  rcases Nat.eq_zero_or_pos i with rfl | h1
  · exact h0
  · exact lessZ_trans h0 (rightL_sorted L _ hr 0 i (by omega) hi h1)
theorem plan_law (L : List Ent) (begin last : Int × Int) (hr : rightL (0, 0) L = true) (hb : ∀ h : 0 < L.length, lessZ begin L[0].z = true) : planP L begin last = planR L begin last := by
  unfold planP planR
  by_cases he : last = (if L.length = 0 then begin else lastZ L)
  · rw [if_pos he]
    by_cases h0 : L.length = 0
    · rw [if_pos h0] at he
      rw [if_pos (.inr he), List.eq_nil_of_length_eq_zero h0]
      simp
    · rw [if_neg h0] at he
      obtain ⟨h1, h2⟩ := find_last L hr (by omega)
      rw [← he] at h1 h2
      rw [if_pos (.inl h2), h1, List.drop_length]
  · rw [if_neg he]
    by_cases hl : lessZ last begin = true
    · have h1 : findB L last = false := by
        rw [Bool.eq_false_iff]
        intro h
        rw [has_law L _ hr, List.any_eq_true] at h
        obtain ⟨x, hx, hz⟩ := h
        have h2 := above_begin L begin hr hb x hx
        rw [of_decide_eq_true hz, lessZ_asymm hl] at h2
        exact absurd h2 (by simp)
      have h2 : last ≠ begin := fun h => by rw [h, lessZ_irrefl] at hl; exact absurd hl (by simp)
      rw [if_neg (by rw [h1]; simp [h2]), if_pos hl, if_pos hl]
    · rw [if_neg hl]
      by_cases hA : findB L last = true ∨ last = begin
      · rw [if_pos hA, if_neg hl, if_pos hA]
      · rw [if_neg hA, if_neg hl, if_neg hA]
        by_cases h0 : findN L last = 0
        · rw [if_pos h0, if_pos h0, h0, List.drop_zero]
        · rw [if_neg h0, if_neg h0]
/-- What Plan makes, as a slice of its own. -/
theorem plan_own (L : List Ent) (a : Option Addr) (cap : Nat) (begin last z : Int × Int) (k : Int) (M : List Ent) (hp : planP L begin last = (k, z, M)) (w : World) (hL : EntsAt w (.slice a L.length cap) L) (hn : L.length ≤ 1000000) (hlc : L.length ≤ cap) :
    Calls Try.prog 16 #[.slice a L.length cap, .agg #[.int .i64 begin.1, .int .i64 begin.2], .agg #[.int .i64 last.1, .int .i64 last.2]] w fun e w' =>
      ∃ am cm, e = .returned (.tuple #[.int .i64 k, .agg #[.int .i64 z.1, .int .i64 z.2], .slice am M.length cm]) ∧ M.length ≤ cm ∧ w'.ownsRow w.heap.size 28 3 (.slice am M.length cm) M.length (entRow M) ∧ EntsAt w' (.slice am M.length cm) M ∧ Below w.heap.size w w' := by
  refine (plan_any L a cap begin last w hL hn hlc).mono ?_
  rintro e w' ⟨v, he, hown, hb⟩
  rw [hp] at he hown
  obtain ⟨_, a2, c2, rfl, h1, _, h2⟩ := own_form hown
  exact ⟨a2, c2, he, h1, hown, h2, hb⟩
theorem refplan_own (L : List Ent) (a : Option Addr) (cap : Nat) (begin last z : Int × Int) (k : Int) (M : List Ent) (hp : planR L begin last = (k, z, M)) (w : World) (hL : EntsAt w (.slice a L.length cap) L) (hn : L.length ≤ 1000000) (hlc : L.length ≤ cap) :
    Calls Try.prog 17 #[.slice a L.length cap, .agg #[.int .i64 begin.1, .int .i64 begin.2], .agg #[.int .i64 last.1, .int .i64 last.2]] w fun e w' =>
      ∃ am cm, e = .returned (.tuple #[.int .i64 k, .agg #[.int .i64 z.1, .int .i64 z.2], .slice am M.length cm]) ∧ EntsAt w' (.slice am M.length cm) M ∧ Below w.heap.size w w' := by
  refine (refplan_any L a cap begin last w hL hn hlc).mono ?_
  rintro e w' ⟨a2, c2, he, hE, hb⟩
  rw [hp] at he hE
  exact ⟨a2, c2, he, hE, hb⟩
theorem entRow_set (L : List Ent) : ∀ (i : Nat) (b : List UInt8), i < L.length → ∃ L' : List Ent, L'.length = L.length ∧ (entRow L).set (i * 3 + 2) (.string (bs b)) = entRow L' ∧ ∀ x ∈ L', x ∈ L ∨ x.b = b := by
  induction L with
  | nil => intro i b h; simp at h
  | cons a L ih =>
    intro i b h
    cases i with
    | zero =>
      refine ⟨{ a with b := b } :: L, rfl, rfl, fun x hx => ?_⟩
      rcases List.mem_cons.1 hx with rfl | hx
      · exact .inr rfl
      · exact .inl (List.mem_cons_of_mem _ hx)
    | succ i =>
      obtain ⟨L', h1, h2, h3⟩ := ih i b (by simpa using h)
      refine ⟨a :: L', by simp [h1], ?_, fun x hx => ?_⟩
      · have e : entRow (a :: L) = .int .i64 a.e :: .int .i64 a.c :: .string (bs a.b) :: entRow L := rfl
        have e2 : entRow (a :: L') = .int .i64 a.e :: .int .i64 a.c :: .string (bs a.b) :: entRow L' := rfl
        rw [e, e2, show (i + 1) * 3 + 2 = (i * 3 + 2) + 1 + 1 + 1 by omega, List.set_cons_succ, List.set_cons_succ, List.set_cons_succ, h2]
      · rcases List.mem_cons.1 hx with rfl | hx
        · exact .inl List.mem_cons_self
        · rcases h3 x hx with h4 | h4
          · exact .inl (List.mem_cons_of_mem _ h4)
          · exact .inr h4
end Go.Proofs.Ytaahbfcnccmcoaa
