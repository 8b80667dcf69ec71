/- The plain law of HistMeets: a follower with a beginning of the leader's history has the leader's history behind a Take of its Plan. Conditions: as each theorem says. -/
import Derived.Test.YtaahbfcnccmcoaaHistQ
namespace Go.Proofs.Ytaahbfcnccmcoaa

theorem rightL_drop (L : List Ent) : ∀ (last : Int × Int) (n : Nat), lessZ last (0, 0) = false → rightL last L = true → rightL (0, 0) (L.drop n) = true := by
  induction L with
  | nil => intro last n _ _; simp [rightL]
  | cons x L ih =>
    intro last n hl h
    cases n with
    | zero =>
      simp only [List.drop_zero, rightL, Bool.and_eq_true, decide_eq_true_eq] at h ⊢
      refine ⟨⟨h.1.1, ?_⟩, h.2⟩
      rw [lessZ_iff]
      have := h.1.1.1
      exact .inl (by show (0 : Int) < x.e; omega)
    | succ n =>
      simp only [rightL, Bool.and_eq_true, decide_eq_true_eq] at h
      refine ih x.z n ?_ h.2
      rw [Bool.eq_false_iff]
      intro k
      rw [lessZ_iff] at k
      have := h.1.1.1
      rcases k with k | k <;> simp only [Ent.z] at k <;> omega
theorem right_pos (L : List Ent) (h : rightL (0, 0) L = true) : ∀ x ∈ L, x.z ≠ (0, 0) := fun x hx e => by
  have := rightL_above L _ h x hx
  rw [e, lessZ_irrefl] at this
  cases this
theorem has_mem (L : List Ent) (h : rightL (0, 0) L = true) (t : Int × Int) : findB L t = true ↔ ∃ x ∈ L, x.z = t := by
  rw [has_law L t h, List.any_eq_true]
  constructor
  · rintro ⟨x, hx, e⟩; exact ⟨x, hx, by simpa using e⟩
  · rintro ⟨x, hx, e⟩; exact ⟨x, hx, by simpa using e⟩
/-- How many there are up to a number, by its neighbours. -/
theorem findN_eq (L : List Ent) (h : rightL (0, 0) L = true) (t : Int × Int) (n : Nat) (hn : n ≤ L.length) (h1 : ∀ (k : 0 < n), lessZ t (L[n - 1]'(by omega)).z = false) (h2 : ∀ (k : n < L.length), lessZ t L[n].z = true) : findN L t = n := by
  have hle := findN_le L t
  rcases Nat.lt_trichotomy (findN L t) n with k | k | k
  · have := splits_law L t h (n - 1) (by omega)
    rw [h1 (by omega)] at this
    have := (decide_eq_false_iff_not.1 this.symm)
    omega
  · exact k
  · have := splits_law L t h n (by omega)
    rw [h2 (by omega)] at this
    have := of_decide_eq_true this.symm
    omega
/-- What a follower that has the first q of L, and M behind them, comes to. -/
def MeetSaid (L M : List Ent) (q : Nat) (p : Int × (Int × Int) × List Ent) : Prop :=
  (p.1 = 1 ∧ p.2.1 = lastZ (L.take q ++ M) ∧ L.take q ++ M ++ p.2.2 = L) ∨
  (p.1 = 2 ∧ findN (L.take q ++ M) p.2.1 = q ∧ (findB (L.take q ++ M) p.2.1 = true ∨ p.2.1 = (0, 0)) ∧ (L.take q ++ M).take q ++ p.2.2 = L) ∨
  (p.1 = 2 ∧ findB (L.take q ++ M) p.2.1 = false ∧ p.2.1 ≠ (0, 0) ∧ 0 < M.length ∧ q < L.length)
theorem meets_law (L M : List Ent) (q : Nat) (hq : q ≤ L.length) (hr : rightL (0, 0) L = true) (hm : rightL (0, 0) (L.take q ++ M) = true) (hno : ∀ x ∈ M, findB L x.z = false) :
    MeetSaid L M q (planP L (0, 0) (lastZ (L.take q ++ M))) ∧ rightL (0, 0) (planP L (0, 0) (lastZ (L.take q ++ M))).2.2 = true ∧ ∀ h : 0 < (planP L (0, 0) (lastZ (L.take q ++ M))).2.2.length, lessZ (planP L (0, 0) (lastZ (L.take q ++ M))).2.1 (planP L (0, 0) (lastZ (L.take q ++ M))).2.2[0].z = true := by
  have hlt : (L.take q).length = q := by rw [List.length_take]; omega
  have hll : (L.take q ++ M).length = q + M.length := by rw [List.length_append, hlt]
  have hnl := findN_le L (lastZ (L.take q ++ M))
  have hdr := fun n => rightL_drop L (0, 0) n (lessZ_irrefl _) hr
  have hlow : lessZ (lastZ (L.take q ++ M)) (0, 0) = false := by
    rcases Nat.eq_zero_or_pos (L.take q ++ M).length with h0 | h0
    · have : L.take q ++ M = [] := List.length_eq_zero_iff.1 h0
      rw [this]; rfl
    · rw [last_of _ h0]
      exact lessZ_asymm (rightL_above _ _ hm _ (List.getElem_mem _))
  generalize hlast : lastZ (L.take q ++ M) = last at *
  have hrest : ∀ h : 0 < (L.drop (findN L last)).length, lessZ last (L.drop (findN L last))[0].z = true := by
    intro h
    rw [List.length_drop] at h
    rw [List.getElem_drop]
    exact findN_at L last (by omega)
  unfold planP
  by_cases hA : findB L last = true ∨ last = (0, 0)
  · rw [if_pos hA]
    refine ⟨.inl ⟨rfl, hlast.symm, ?_⟩, hdr _, hrest⟩
    have hM : M = [] := by
      rcases Nat.eq_zero_or_pos M.length with h0 | h0
      · exact List.length_eq_zero_iff.1 h0
      · exfalso
        have hl := last_of (L.take q ++ M) (by omega)
        rw [hlast] at hl
        have hx : (L.take q ++ M)[(L.take q ++ M).length - 1]'(by omega) = M[M.length - 1]'(by omega) := by
          rw [List.getElem_append_right (by omega)]
          congr 1
          omega
        rw [hx] at hl
        rcases hA with hA | hA
        · have := hno _ (List.getElem_mem (show M.length - 1 < M.length by omega))
          rw [← hl, hA] at this
          cases this
        · exact right_pos _ hm _ (List.mem_append_right _ (List.getElem_mem (show M.length - 1 < M.length by omega))) (by rw [← hl, hA])
    subst hM
    rw [List.append_nil] at hlast ⊢
    have hn : findN L last = q := by
      refine findN_eq L hr last q hq (fun k => ?_) (fun k => ?_)
      · have hl := last_of (L.take q) (by omega)
        rw [hlast] at hl
        have e : (L.take q)[(L.take q).length - 1]'(by omega) = L[q - 1]'(by omega) := by simp [hlt]
        rw [e] at hl
        rw [hl, lessZ_irrefl]
      · rcases Nat.eq_zero_or_pos q with h0 | h0
        · subst h0
          have : last = (0, 0) := by rw [← hlast]; rfl
          rw [this]
          exact rightL_above L _ hr _ (List.getElem_mem _)
        · have hl := last_of (L.take q) (by omega)
          rw [hlast] at hl
          have e : (L.take q)[(L.take q).length - 1]'(by omega) = L[q - 1]'(by omega) := by simp [hlt]
          rw [e] at hl
          rw [hl]
          exact rightL_sorted L _ hr _ _ (by omega) k (by omega)
    rw [hn, List.take_append_drop]
  · rw [if_neg hA]
    have hls : ¬ lessZ last (0, 0) = true := by rw [hlow]; decide
    rw [if_neg hls]
    have hA1 : findB L last = false := by cases h : findB L last with | false => rfl | true => exact absurd (.inl h) hA
    have hA2 : last ≠ (0, 0) := fun h => hA (.inr h)
    have hMp : 0 < M.length := by
      rcases Nat.eq_zero_or_pos M.length with h0 | h0
      · exfalso
        have hM : M = [] := List.length_eq_zero_iff.1 h0
        subst hM
        rw [List.append_nil] at hlast
        rcases Nat.eq_zero_or_pos q with h1 | h1
        · subst h1
          exact hA2 (by rw [← hlast]; rfl)
        · have hl := last_of (L.take q) (by omega)
          rw [hlast] at hl
          have e : (L.take q)[(L.take q).length - 1]'(by omega) = L[q - 1]'(by omega) := by simp [hlt]
          rw [e] at hl
          have := (has_mem L hr last).2 ⟨_, List.getElem_mem (show q - 1 < L.length by omega), hl.symm⟩
          rw [this] at hA1
          cases hA1
      · exact h0
    -- all of the first q are below the last one
    have hge : q ≤ findN L last := by
      rcases Nat.lt_or_ge (findN L last) q with k | k
      · exfalso
        have h1 := findN_at L last (by omega)
        have hl := last_of (L.take q ++ M) (by omega)
        rw [hlast] at hl
        have h2 := rightL_sorted _ _ hm (findN L last) ((L.take q ++ M).length - 1) (by omega) (by omega) (by omega)
        rw [← hl] at h2
        have e : (L.take q ++ M)[findN L last]'(by omega) = L[findN L last]'(by omega) := by
          rw [List.getElem_append_left (by omega), List.getElem_take]
        rw [e] at h2
        rw [lessZ_asymm h1] at h2
        cases h2
      · exact k
    by_cases hz : findN L last = 0
    · rw [if_pos hz]
      have hq0 : q = 0 := by omega
      subst hq0
      refine ⟨.inr (.inl ⟨rfl, ?_, .inr rfl, ?_⟩), hdr _, ?_⟩
      · refine findN_eq _ hm _ 0 (Nat.zero_le _) (fun k => by omega) (fun k => rightL_above _ _ hm _ (List.getElem_mem _))
      · simp only [hz, List.take_zero, List.nil_append, List.drop_zero]
      · intro h
        exact rightL_above _ _ (hdr _) _ (List.getElem_mem _)
    · rw [if_neg hz]
      have hi : findN L last - 1 < L.length := by omega
      have hgd : L.getD (findN L last - 1) default = L[findN L last - 1] := by simp [List.getD, hi]
      rw [hgd]
      have hrest2 : ∀ h : 0 < (L.drop (findN L last)).length, lessZ L[findN L last - 1].z (L.drop (findN L last))[0].z = true := by
        intro h
        rw [List.length_drop] at h
        rw [List.getElem_drop]
        exact rightL_sorted L _ hr _ _ hi (by omega) (by omega)
      have hne : L[findN L last - 1].z ≠ (0, 0) := right_pos L hr _ (List.getElem_mem _)
      refine ⟨?_, hdr _, hrest2⟩
      rcases Nat.eq_or_lt_of_le hge with h | h
      · refine .inr (.inl ⟨rfl, ?_, .inl ?_, ?_⟩)
        · have hq1 : 0 < q := by omega
          have e : (L.take q ++ M)[q - 1]'(by omega) = L[findN L last - 1] := by
            rw [List.getElem_append_left (by omega), List.getElem_take]
            simp only [h]
          refine findN_eq _ hm _ q (by omega) (fun k => ?_) (fun k => ?_)
          · rw [e, lessZ_irrefl]
          · rw [← e]
            exact rightL_sorted _ _ hm _ _ (by omega) k (by omega)
        · refine (has_mem _ hm _).2 ⟨L[findN L last - 1], ?_, rfl⟩
          refine List.mem_append_left _ (List.mem_take_iff_getElem.2 ⟨findN L last - 1, by omega, rfl⟩)
        · have e : (L.take q ++ M).take q = L.take q := by rw [List.take_append_of_le_length (by omega), List.take_of_length_le (by omega)]
          simp only [e, ← h]
          exact List.take_append_drop q L
      · refine .inr (.inr ⟨rfl, ?_, hne, hMp, by omega⟩)
        cases hb : findB (L.take q ++ M) L[findN L last - 1].z with
        | false => rfl
        | true =>
          exfalso
          obtain ⟨x, hx, e⟩ := (has_mem _ hm _).1 hb
          rcases List.mem_append.1 hx with hx | hx
          · obtain ⟨j, hj, rfl⟩ := List.mem_take_iff_getElem.1 hx
            have := rightL_sorted L _ hr j (findN L last - 1) (by omega) hi (by omega)
            rw [e, lessZ_irrefl] at this
            cases this
          · have h1 := hno x hx
            have h2 := (has_mem L hr x.z).2 ⟨_, List.getElem_mem hi, e.symm⟩
            rw [h2] at h1
            cases h1
end Go.Proofs.Ytaahbfcnccmcoaa
