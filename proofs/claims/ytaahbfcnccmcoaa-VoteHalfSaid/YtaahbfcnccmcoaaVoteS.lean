/- The plain law of VoteHalf: what was told is what was kept. Conditions: as each theorem says. -/
import Derived.Test.YtaahbfcnccmcoaaVoteR
namespace Go.Proofs.Ytaahbfcnccmcoaa
open Go.RowKit

def zeroVot : Vot := ⟨zeroBal, 0, 0⟩
/-- What a poll and what was kept of its votes have in common. -/
structure Half (p : Poll) (K : List Vot) : Prop where
  fit : p.fit
  round : p.round = 0
  dec : ∀ d ∈ p.dec, d.2 = 0
  len : K.length = 7
  mine : p.told[p.me]? = some (true, p.now)
  others : ∀ j, j < 7 → j ≠ p.me → (∃ b, p.told[j]? = some (true, b) ∧ K[j]? = some ⟨b, 0, 1⟩) ∨ ((∃ b, p.told[j]? = some (false, b)) ∧ K[j]? = some zeroVot)
theorem half_new (me nodes : Nat) (own : Bal) (h1 : 1 ≤ nodes) (h7 : nodes ≤ 7) (hm : me < nodes) : Half (newP me nodes own) (List.replicate 7 zeroVot) := by
  refine ⟨new_fit me nodes own h1 h7 hm, rfl, ?_, by simp, ?_, ?_⟩
  · intro d hd
    have : d ∈ noDec := hd
    unfold noDec at this
    rw [(List.mem_replicate.1 this).2]
  · show (noTold.set me (true, own))[me]? = some (true, own)
    rw [List.getElem?_set_self (by unfold noTold; simp; omega)]
  · intro j hj hjm
    refine .inr ⟨⟨zeroBal, ?_⟩, ?_⟩
    · show (noTold.set me (true, own))[j]? = _
      have hjm' : me ≠ j := fun h => hjm h.symm
      rw [List.getElem?_set_ne hjm']
      unfold noTold
      rw [List.getElem?_replicate, if_pos hj]
    · rw [List.getElem?_replicate, if_pos hj]
theorem half_step (p : Poll) (K : List Vot) (h : Half p K) (n : Nat) (b : Bal) (hk : okV p (n : Int) ⟨b, 0, 1⟩) : Half (stepP p (n : Int) ⟨b, 0, 1⟩).1 (K.set n ⟨b, 0, 1⟩) := by
  have hfit := step_fit p (n : Int) ⟨b, 0, 1⟩ h.fit
  obtain ⟨k, hkn, hk1, hk2⟩ := okV_nat hk
  obtain rfl : n = k := by omega
  have h7 := h.fit.nodes7
  have hn7 : n < 7 := by omega
  have hme := h.fit.me
  unfold stepP at hfit ⊢
  rw [if_pos hk, Int.toNat_natCast] at hfit ⊢
  unfold takeP at hfit ⊢
  have e1 : ¬ (Vot.mk b 0 1).state ≠ 1 := by simp
  have e2 : ¬ (Vot.mk b 0 1).round < p.round := by rw [h.round]; simp
  have e3 : ¬ p.round < (Vot.mk b 0 1).round := by rw [h.round]; simp
  rw [if_neg e1, if_neg e2, if_neg e3] at hfit ⊢
  have hdec : ∀ d ∈ p.dec.set n (0, 0), d.2 = 0 := by
    intro d hd
    rcases List.mem_or_eq_of_mem_set hd with hd | rfl
    · exact h.dec d hd
    · rfl
  have htl := h.fit.told
  by_cases hb : betterB b p.now = true
  · rw [if_pos hb] at hfit ⊢
    refine ⟨hfit, h.round, hdec, by simp [h.len], ?_, ?_⟩
    · show ((p.told.set n (true, b)).set p.me (true, b))[p.me]? = some (true, b)
      rw [List.getElem?_set_self (by simp; omega)]
    · intro j hj hjm
      show (∃ b', ((p.told.set n (true, b)).set p.me (true, b))[j]? = some (true, b') ∧ _) ∨ ((∃ b', ((p.told.set n (true, b)).set p.me (true, b))[j]? = some (false, b')) ∧ _)
      have hjm' : p.me ≠ j := fun h => hjm h.symm
      rw [List.getElem?_set_ne hjm']
      by_cases hjn : n = j
      · subst hjn
        refine .inl ⟨b, ?_, ?_⟩
        · rw [List.getElem?_set_self (by omega)]
        · rw [List.getElem?_set_self (by rw [h.len]; omega)]
      · rw [List.getElem?_set_ne hjn, List.getElem?_set_ne hjn]
        exact h.others j hj hjm
  · rw [if_neg hb] at hfit ⊢
    refine ⟨hfit, h.round, hdec, by simp [h.len], ?_, ?_⟩
    · show (p.told.set n (true, b))[p.me]? = some (true, p.now)
      rw [List.getElem?_set_ne hk2]
      exact h.mine
    · intro j hj hjm
      show (∃ b', (p.told.set n (true, b))[j]? = some (true, b') ∧ _) ∨ ((∃ b', (p.told.set n (true, b))[j]? = some (false, b')) ∧ _)
      by_cases hjn : n = j
      · subst hjn
        refine .inl ⟨b, ?_, ?_⟩
        · rw [List.getElem?_set_self (by omega)]
        · rw [List.getElem?_set_self (by rw [h.len]; omega)]
      · rw [List.getElem?_set_ne hjn, List.getElem?_set_ne hjn]
        exact h.others j hj hjm
/-- How many others below k told what it votes for. -/
def othersN (p : Poll) (K : List Vot) : Nat → Nat
  | 0 => 0
  | k + 1 => othersN p K k + if k ≠ p.me ∧ K[k]? = some (voteOf p) then 1 else 0
theorem othersN_succ (p : Poll) (K : List Vot) (k : Nat) : othersN p K (k + 1) = othersN p K k + if k ≠ p.me ∧ K[k]? = some (voteOf p) then 1 else 0 := rfl
theorem othersN_le (p : Poll) (K : List Vot) (k : Nat) : othersN p K k ≤ k := by
  induction k with
  | zero => exact Nat.le_refl _
  | succ k ih => rw [othersN_succ]; split <;> omega
theorem half_votes (p : Poll) (K : List Vot) (h : Half p K) (k : Nat) (hk : k ≤ 7) : votesN p k = othersN p K k + if p.me < k then 1 else 0 := by
  induction k with
  | zero => simp [votesN, othersN]
  | succ k ih =>
    have hkt : k < p.told.length := by rw [h.fit.told]; omega
    rw [votesN_step p k hkt, ih (by omega), othersN_succ]
    have ht : p.told[k]? = some p.told[k] := List.getElem?_eq_getElem hkt
    by_cases hm : k = p.me
    · have h1 : p.told[k] = (true, p.now) := by
        have := h.mine
        rw [← hm, ht] at this
        exact Option.some.inj this
      have h2 : ¬ (k ≠ p.me ∧ K[k]? = some (voteOf p)) := fun h => h.1 hm
      have h3 : ¬ p.me < k := by omega
      have h4 : p.me < k + 1 := by omega
      rw [if_pos h1, if_neg h2, if_neg h3, if_pos h4]
    · have e : (if p.me < k + 1 then 1 else 0) = (if p.me < k then 1 else 0 : Nat) := by
        by_cases h2 : p.me < k
        · rw [if_pos h2, if_pos (by omega)]
        · rw [if_neg h2, if_neg (by omega)]
      rw [e]
      generalize (if p.me < k then 1 else 0 : Nat) = z
      rcases h.others k (by omega) hm with ⟨b, h1, h2⟩ | ⟨⟨b, h1⟩, h2⟩
      · have h3 : p.told[k] = (true, b) := by rw [ht] at h1; exact Option.some.inj h1
        rw [h3, h2]
        by_cases hb : b = p.now
        · have a1 : (true, b) = (true, p.now) := by rw [hb]
          have a2 : k ≠ p.me ∧ some (⟨b, 0, 1⟩ : Vot) = some (voteOf p) := ⟨hm, by rw [hb]; unfold voteOf; rw [h.round]⟩
          rw [if_pos a1, if_pos a2]
          omega
        · have a1 : ¬ (true, b) = (true, p.now) := fun h => hb (congrArg Prod.snd h)
          have a2 : ¬ (k ≠ p.me ∧ some (⟨b, 0, 1⟩ : Vot) = some (voteOf p)) := fun hh => hb (congrArg Vot.b (Option.some.inj hh.2))
          rw [if_neg a1, if_neg a2]
          omega
      · have h3 : p.told[k] = (false, b) := by rw [ht] at h1; exact Option.some.inj h1
        have a1 : ¬ (false, b) = (true, p.now) := fun h => by simp at h
        have a2 : ¬ (k ≠ p.me ∧ some zeroVot = some (voteOf p)) := fun hh => by have := congrArg Vot.state (Option.some.inj hh.2); simp [zeroVot, voteOf] at this
        rw [h3, h2, if_neg a1, if_neg a2]
        omega
theorem half_all (p : Poll) (K : List Vot) (h : Half p K) : votesN p p.nodes = othersN p K p.nodes + 1 := by
  rw [half_votes p K h p.nodes h.fit.nodes7, if_pos h.fit.me]
theorem half_noOne (p : Poll) (K : List Vot) (h : Half p K) : noOne p := fun _ _ => h.dec _ (List.getElem_mem _)
set_option maxRecDepth 100000 in
theorem run_eq_vot (a b : Vot) (W : World) : (binOp .eql 55 (votV a) (votV b)).run Try.prog W = .ok (.bool (decide (a = b))) W := by
  obtain ⟨⟨a0, a1, a2, a3⟩, a4, a5⟩ := a
  obtain ⟨⟨b0, b1, b2, b3⟩, b4, b5⟩ := b
  unfold votV
  go_simp
  by_cases h0 : a0 = b0 <;> by_cases h1 : a1 = b1 <;> by_cases h2 : a2 = b2 <;> by_cases h3 : a3 = b3 <;> by_cases h4 : a4 = b4 <;> by_cases h5 : a5 = b5 <;> simp [h0, h1, h2, h3, h4, h5]
end Go.Proofs.Ytaahbfcnccmcoaa
