/- The plain law of a step, and comparing votes. Conditions: as each theorem says. -/
import Derived.Test.YtaahbfcnccmcoaaVoteO
namespace Go.Proofs.Ytaahbfcnccmcoaa
open Go.RowKit

set_option maxRecDepth 100000 in
set_option maxHeartbeats 400000 in
theorem lbetter_any (a b : Vot) (w : World) :
    Calls Try.prog 39 #[votV a, votV b] w fun e w' => e = .returned (.bool (betterB a.b b.b)) ∧ Below w.heap.size w w' := by
  have HB : Hid (∀ o1 o2, Below w.heap.size w ((w.alloc o1).alloc o2)) := fun o1 o2 => ((Below.refl _ w).alloc (Nat.le_refl _) _).alloc (by simp) _
  obtain ⟨⟨al, ae, ac, ap⟩, ar, as'⟩ := a
  obtain ⟨⟨bl, be, bc, bp⟩, br, bs'⟩ := b
  have HLs := Lib.hid (fun W => less_any (be, bc) (ae, ac) W)
  unfold zxidV at HLs
  unfold betterB votV
  simp only at HLs ⊢
  by_cases h0 : ap = bp
  · rw [if_pos h0]
    have b0 : (ap == bp) = true := by simpa using h0
    have b0' : (ap != bp) = false := by simpa using h0
    rcases zx_cases (ae, ac) (be, bc) with ⟨hz, q0, q1⟩ | ⟨hz, q0, q1⟩ | ⟨hz, q0⟩
    · as_aux_lemma =>
      rw [if_pos hz]
      clear h0 hz
      simp only at q0 q1
      go_enter Try.func39, Try.ntmps39
      go_wp2
      go_ret
      exact ⟨rfl, HB.out _ _⟩
    all_goals
      as_aux_lemma =>
      rw [if_neg hz]
      clear h0 hz
      simp only at q0
      try simp only at q1
      go_enter Try.func39, Try.ntmps39
      go_wp2_with (fail)
      refine (HLs.out _).mono ?_
      rintro e w3 ⟨rfl, hb3⟩
      go_wp2
      go_ret
      exact ⟨rfl, (HB.out _ _).trans (hb3.mono (by simp; omega))⟩
  · as_aux_lemma =>
    rw [if_neg h0]
    have b0 : (ap == bp) = false := by simpa using h0
    have b0' : (ap != bp) = true := by simpa using h0
    clear h0
    go_enter Try.func39, Try.ntmps39
    go_wp2
    go_ret
    exact ⟨rfl, HB.out _ _⟩
theorem betterB_irrefl (a : Bal) : betterB a a = false := by unfold betterB; rw [if_pos rfl, if_pos rfl]; simp
theorem betterB_asymm {a b : Bal} (h : betterB a b = true) : betterB b a = false := by
  unfold betterB at *
  by_cases h1 : a.p = b.p
  · rw [if_pos h1] at h
    rw [if_pos h1.symm]
    by_cases h2 : (a.e, a.c) = (b.e, b.c)
    · rw [if_pos h2] at h
      rw [if_pos h2.symm]
      have := of_decide_eq_true h
      exact decide_eq_false (by omega)
    · rw [if_neg h2] at h
      rw [if_neg (fun h => h2 h.symm)]
      exact lessZ_asymm h
  · rw [if_neg h1] at h
    rw [if_neg (fun h => h1 h.symm)]
    have := of_decide_eq_true h
    exact decide_eq_false (by omega)
/-- What a step does to a ballot. -/
theorem step_law (p : Poll) (n : Int) (v : Vot) : p.round ≤ (stepP p n v).1.round ∧ ((stepP p n v).1.round = p.round → betterB p.now (stepP p n v).1.now = false) ∧ ((stepP p n v).2 ≠ 2 → (stepP p n v).1.now = p.now ∧ (stepP p n v).1.round = p.round) ∧ ((stepP p n v).1.round = p.round ∨ (stepP p n v).1.round = v.round) := by
  unfold stepP
  by_cases hk : okV p n v
  · rw [if_pos hk]
    unfold takeP
    by_cases hs : v.state ≠ 1
    · rw [if_pos hs]
      exact ⟨Int.le_refl _, fun _ => betterB_irrefl _, fun _ => ⟨rfl, rfl⟩, .inl rfl⟩
    · rw [if_neg hs]
      by_cases hr : v.round < p.round
      · rw [if_pos hr]
        exact ⟨Int.le_refl _, fun _ => betterB_irrefl _, fun _ => ⟨rfl, rfl⟩, .inl rfl⟩
      · rw [if_neg hr]
        by_cases hr2 : p.round < v.round
        · rw [if_pos hr2]
          by_cases hb : betterB v.b p.own = true
          · rw [if_pos hb]
            exact ⟨Int.le_of_lt hr2, fun h => absurd (show v.round = p.round from h) (by omega), fun h => absurd rfl h, .inr rfl⟩
          · rw [if_neg hb]
            exact ⟨Int.le_of_lt hr2, fun h => absurd (show v.round = p.round from h) (by omega), fun h => absurd rfl h, .inr rfl⟩
        · rw [if_neg hr2]
          by_cases hb : betterB v.b p.now = true
          · rw [if_pos hb]
            exact ⟨Int.le_refl _, fun _ => betterB_asymm hb, fun h => absurd rfl h, .inl rfl⟩
          · rw [if_neg hb]
            exact ⟨Int.le_refl _, fun _ => betterB_irrefl _, fun _ => ⟨rfl, rfl⟩, .inl rfl⟩
  · rw [if_neg hk]
    exact ⟨Int.le_refl _, fun _ => betterB_irrefl _, fun _ => ⟨rfl, rfl⟩, .inl rfl⟩
set_option maxRecDepth 100000 in
theorem run_neq_vot (a : Vot) (W : World) : (binOp .neq 55 (votV a) (votV a)).run Try.prog W = .ok (.bool false) W := by
  unfold votV
  go_simp
end Go.Proofs.Ytaahbfcnccmcoaa
