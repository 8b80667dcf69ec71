/- Plain: changes come in order; a change that is refused changes nothing. Conditions: as each theorem says. -/
import Derived.Test.YtnliapdhmjljiaaGenU
namespace Go.Proofs.Ytnliapdhmjljiaa

theorem asc_split (L X Y : List Ch) (lo : Int) (c : Ch) (h : ascC lo L) (e : L = X ++ c :: Y) : (∀ x ∈ X, x.rev < c.rev) ∧ (∀ y ∈ Y, c.rev < y.rev) := by
  subst e
  refine ⟨asc_snoc_lt X lo c Y h, ?_⟩
  have key : ∀ (X : List Ch) (lo : Int), ascC lo (X ++ c :: Y) → ascC c.rev Y := by
    intro X
    induction X with
    | nil => intro lo h; exact h.2
    | cons x X ih => intro lo h; exact ih x.rev h.2
  exact asc_gt Y c.rev (key X lo h)
/-- At a change's own revision it is what is seen. -/
theorem at_self (L X Y : List Ch) (c : Ch) (h : ascC 0 L) (e : L = X ++ c :: Y) : atR L c.rev = if c.gone = true then zeroC else c := by
  obtain ⟨h1, h2⟩ := asc_split L X Y 0 c h e
  have hs : seenR c.rev zeroC L = c := by
    rw [e, seenR_append]
    show seenR c.rev (if c.rev ≤ c.rev then c else _) Y = c
    rw [if_pos (Int.le_refl _)]
    exact seenR_no _ _ _ h2
  unfold atR
  rw [hs]
/-- Behind all changes the last one is what is seen. -/
theorem at_end (L : List Ch) (rev : Int) (h : ∀ c ∈ L, c.rev ≤ rev) : atR L rev = if (L.getLastD zeroC).gone = true then zeroC else L.getLastD zeroC := by
  unfold atR
  rw [seenR_all rev zeroC L h]
theorem flat_top {s : Ks} (h : InvK s) : ∀ c ∈ flat s.gs, 1 ≤ c.rev ∧ c.rev ≤ s.last ∧ c.rev ≤ 1099511627776 := by
  have ha := flat_asc s.gs 0 (Int.le_refl _) h.1
  have ht := inv_top h
  have key : ∀ (gs : List Gn) (lo : Int), 0 ≤ lo → okG lo gs → ∀ c ∈ flat gs, c.rev ≤ topG lo gs := by
    intro gs
    induction gs with
    | nil => intro lo _ _ c hc; simp [flat] at hc
    | cons g gs ih =>
      intro lo h0 hok c hc
      obtain ⟨h1, h2, h3⟩ := hok
      have hge := lastI_gt h2 h1
      have e : flat (g :: gs) = Gn.flat g ++ flat gs := rfl
      rw [e] at hc
      rcases h3 with ⟨hf, rfl⟩ | ⟨hf, h3⟩
      · have htop : topG lo [g] = lastI lo g.puts := by show topG (if g.fin = 0 then _ else _) [] = _; rw [if_pos hf]; rfl
        rcases List.mem_append.1 hc with hc | hc
        · rcases gn_mem g lo h2 c hc h0 with hh | hh <;> omega
        · simp [flat] at hc
      · have htop : topG lo (g :: gs) = topG g.fin gs := by show topG (if g.fin = 0 then _ else g.fin) gs = _; rw [if_neg (by omega)]
        have hgt := topG_ge gs g.fin (by omega) h3
        rcases List.mem_append.1 hc with hc | hc
        · rcases gn_mem g lo h2 c hc h0 with hh | hh <;> omega
        · have := ih g.fin (by omega) h3 c hc; omega
  intro c hc
  have h1 := asc_gt _ _ ha c hc
  have h2 := key s.gs 0 (Int.le_refl _) h.1 c hc
  have h3 := h.2.2.2
  exact ⟨by omega, by omega, by omega⟩
/-- The last change's revision is the key's last one. -/
theorem flat_last {s : Ks} (h : InvK s) (hn : s.gs ≠ []) : ((flat s.gs).getLastD zeroC).rev = s.last := by
  have ht : topG 0 s.gs = s.last := by rcases h.2.1 with h1 | h1; exact absurd h1 hn; exact h1
  have hnow := at_now s.last s.gs 0 zeroC (Int.le_refl _) h.1 (by omega) hn
  rw [seenR_all s.last zeroC (flat s.gs) (fun c hc => (flat_top h c hc).2.1)] at hnow
  rw [hnow]
  split <;> exact ht
/-- Refuses: what a tombstone answers, and what a put behind it shows. -/
theorem refuse_tomb {s : Ks} (h : InvK s) (rev : Int) : (tombK s rev).2 = (if wrongB s.last rev = true then 1 else if 0 < (atR (flat s.gs) rev).rev then 0 else 21) := by
  unfold tombK
  by_cases hw : wrongB s.last rev = true
  · rw [if_pos hw, if_pos hw]
  · rw [if_neg hw, if_neg hw]
    have ha := at_open h rev (wrong_no hw).2.2
    rw [ha]
    by_cases ho : openB s.gs = true
    · have := last_pos h ho
      rw [if_pos ho, if_pos ho]; simp [this]
    · rw [if_neg ho, if_neg ho]; simp [zeroC]
theorem refuse_put {s : Ks} (h : InvK s) (rev : Int) (hw : ¬ wrongB s.last rev = true) : (putK s rev).2 = 0 ∧ atR (flat (putK s rev).1.gs) rev = (⟨rev, if (atR (flat s.gs) rev).rev = 0 then rev else (atR (flat s.gs) rev).cr, (atR (flat s.gs) rev).ver + 1, false⟩ : Ch) ∧
    ∃ c, c.rev = rev ∧ flat (putK s rev).1.gs = flat s.gs ++ [c] ∧ (putK s rev).1.last = rev := by
  have hs := put_sim h rev
  have hL : putR (refK s) rev = (⟨flat s.gs ++ [⟨rev, if (atR (flat s.gs) rev).rev = 0 then rev else (atR (flat s.gs) rev).cr, (atR (flat s.gs) rev).ver + 1, false⟩], rev⟩, 0) := by
    unfold putR
    show (if wrongB s.last rev = true then _ else _) = _
    rw [if_neg hw]; rfl
  rw [hL] at hs
  have e1 : (putK s rev).2 = 0 := (congrArg Prod.snd hs).symm
  have e2 : flat (putK s rev).1.gs = flat s.gs ++ [⟨rev, if (atR (flat s.gs) rev).rev = 0 then rev else (atR (flat s.gs) rev).cr, (atR (flat s.gs) rev).ver + 1, false⟩] := (congrArg (fun x => x.1.L) hs).symm
  have e3 : (putK s rev).1.last = rev := (congrArg (fun x => x.1.last) hs).symm
  refine ⟨e1, ?_, _, rfl, e2, e3⟩
  have ha := flat_asc _ 0 (Int.le_refl _) (inv_put h rev).1
  have := at_self _ (flat s.gs) [] _ ha e2
  exact this.trans (if_neg Bool.false_ne_true)
theorem tomb_new {s : Ks} (h : InvK s) (rev : Int) (he : (tombK s rev).2 = 0) : flat (tombK s rev).1.gs = flat s.gs ++ [⟨rev, 0, 0, true⟩] ∧ (tombK s rev).1.last = rev ∧ ¬ wrongB s.last rev = true := by
  unfold tombK at he ⊢
  by_cases hw : wrongB s.last rev = true
  · rw [if_pos hw] at he; simp at he
  · rw [if_neg hw] at he ⊢
    by_cases ho : openB s.gs = true
    · rw [if_pos ho]
      have ht := inv_top h
      have hl := (wrong_no hw).2.2
      exact ⟨(tomb_ok rev s.gs 0 (Int.le_refl _) h.1 (by omega) ho).2.2, rfl, hw⟩
    · rw [if_neg ho] at he; simp at he
theorem tomb_old {s : Ks} (rev : Int) (he : (tombK s rev).2 ≠ 0) : (tombK s rev).1 = s := by
  unfold tombK at he ⊢
  by_cases hw : wrongB s.last rev = true
  · rw [if_pos hw]
  · rw [if_neg hw] at he ⊢
    by_cases ho : openB s.gs = true
    · rw [if_pos ho] at he; simp at he
    · rw [if_neg ho]
theorem put_old {s : Ks} (rev : Int) (hw : wrongB s.last rev = true) : putK s rev = (s, 1) := by unfold putK; rw [if_pos hw]
end Go.Proofs.Ytnliapdhmjljiaa
