/- Plain: what Compact leaves is what the document says; the order stays. Conditions: as each theorem says. -/
import Derived.Test.YtnliapdhmjljiaaGenQ
namespace Go.Proofs.Ytnliapdhmjljiaa

theorem seenR_cases (rev : Int) : ∀ (l : List Ch) (c : Ch), seenR rev c l = c ∨ (seenR rev c l ∈ l ∧ (seenR rev c l).rev ≤ rev) := by
  intro l
  induction l with
  | nil => intro c; exact .inl rfl
  | cons x l ih =>
    intro c
    show seenR rev (if x.rev ≤ rev then x else c) l = c ∨ _
    have e : seenR rev c (x :: l) = seenR rev (if x.rev ≤ rev then x else c) l := rfl
    rw [e]
    by_cases hx : x.rev ≤ rev
    · rw [if_pos hx]
      rcases ih x with h | ⟨h1, h2⟩
      · right; rw [h]; exact ⟨by simp, hx⟩
      · right; exact ⟨by simp [h1], h2⟩
    · rw [if_neg hx]
      rcases ih c with h | ⟨h1, h2⟩
      · exact .inl h
      · right; exact ⟨by simp [h1], h2⟩
def nowR (s : Ch) : Int := if s.gone = true then 0 else s.rev
theorem gn_mem (g : Gn) (lo : Int) (h : asc lo g.puts) (c : Ch) (hc : c ∈ Gn.flat g) (h0 : 0 ≤ lo) : (lo < c.rev ∧ c.rev ≤ lastI lo g.puts ∧ c.gone = false) ∨ (c.rev = g.fin ∧ 0 < g.fin ∧ c.gone = true) := by
  unfold Gn.flat at hc
  rcases List.mem_append.1 hc with hc | hc
  · left
    have key : ∀ (l : List Int) (v : Int), c ∈ chsFrom g.cr v l → c.rev ∈ l ∧ c.gone = false := by
      intro l
      induction l with
      | nil => intro v h; simp [chsFrom] at h
      | cons p l ih =>
        intro v h
        simp only [chsFrom, List.mem_cons] at h
        rcases h with rfl | h
        · exact ⟨by simp, rfl⟩
        · obtain ⟨h1, h2⟩ := ih _ h; exact ⟨by simp [h1], h2⟩
    obtain ⟨h1, h2⟩ := key _ _ hc
    have := asc_mem _ _ h _ h1
    exact ⟨this.1, this.2, h2⟩
  · right
    unfold finC at hc
    by_cases hf : 0 < g.fin
    · rw [if_pos hf] at hc
      simp only [List.mem_cons, List.not_mem_nil, or_false] at hc
      subst hc
      exact ⟨rfl, hf, rfl⟩
    · rw [if_neg hf] at hc; simp at hc
theorem cut_flat (rev : Int) (g : Gn) (now : Int) (lo : Int) (h : asc lo g.puts) (hf : ¬ (0 < g.fin ∧ g.fin ≤ rev)) (hz : upTo g.puts rev = 0 → ∀ p ∈ g.puts, p ≠ now) (hn : upTo g.puts rev ≠ 0 → now = g.puts.getD (upTo g.puts rev - 1) 0) :
    Gn.flat (cutG rev g) = leftR now rev (Gn.flat g) := by
  have hL := chs_left g.cr rev g.puts lo (g.cut + 1) now h hz hn
  have hF : leftR now rev (finC g.fin) = finC g.fin := by
    unfold finC
    by_cases h0 : 0 < g.fin
    · rw [if_pos h0]
      have : rev < g.fin := by omega
      simp [leftR, this]
    · rw [if_neg h0]; rfl
  unfold Gn.flat
  rw [leftR_append, hL, hF, chs_drop]
  unfold cutG
  by_cases h1 : 1 < upTo g.puts rev
  · rw [if_pos h1]
    simp only
    congr 2
    omega
  · rw [if_neg h1]
    have : upTo g.puts rev - 1 = 0 := by omega
    rw [this]; simp
theorem comp_flat (rev : Int) : ∀ (gs : List Gn) (lo : Int) (c : Ch), 0 ≤ lo → okG lo gs → (c.gone = true ∨ c.rev = 0) → flat (compG gs rev) = leftR (nowR (seenR rev c (flat gs))) rev (flat gs) := by
  intro gs
  induction gs with
  | nil => intro lo c _ _ _; rfl
  | cons g gs ih =>
    intro lo c h0 hok hc
    have hok' := hok
    obtain ⟨h1, h2, h3⟩ := hok
    have hge := lastI_gt h2 h1
    have hgs := gn_seen g lo rev c h2 (by rcases h3 with h3 | h3; exact .inl h3.1; exact .inr h3.1) h1
    have e : flat (g :: gs) = Gn.flat g ++ flat gs := rfl
    rw [e, seenR_append, leftR_append]
    by_cases hg : goneG rev g = true
    · have hg2 : 0 < g.fin ∧ g.fin ≤ rev := by unfold goneG at hg; simpa using hg
      obtain ⟨hf, h3⟩ : lastI lo g.puts < g.fin ∧ okG g.fin gs := by rcases h3 with h3 | h3; exact absurd h3.1 (by omega); exact h3
      have hu := upTo_all _ _ _ h2 (show lastI lo g.puts ≤ rev by omega)
      have hpos : g.puts.length ≠ 0 := fun e => h1 (List.length_eq_zero_iff.1 e)
      rw [if_neg (by omega)] at hgs
      have hpick : pickG g rev = ⟨g.fin, 0, 0, true⟩ := by unfold pickG; rw [if_pos hg2]
      rw [hpick] at hgs
      rw [hgs]
      have hI := ih g.fin ⟨g.fin, 0, 0, true⟩ (by omega) h3 (.inl rfl)
      have hcomp : compG (g :: gs) rev = compG gs rev := by unfold compG; rw [List.filter_cons, hg]; rfl
      rw [hcomp, hI]
      have hnow : nowR (seenR rev ⟨g.fin, 0, 0, true⟩ (flat gs)) = 0 ∨ g.fin < nowR (seenR rev ⟨g.fin, 0, 0, true⟩ (flat gs)) := by
        rcases seenR_cases rev (flat gs) ⟨g.fin, 0, 0, true⟩ with h | ⟨h, _⟩
        · left; rw [h]; rfl
        · have := asc_gt _ _ (flat_asc gs g.fin (by omega) h3) _ h
          unfold nowR
          by_cases hgo : (seenR rev ⟨g.fin, 0, 0, true⟩ (flat gs)).gone = true
          · left; rw [if_pos hgo]
          · right; rw [if_neg hgo]; exact this
      rw [leftR_none _ rev (Gn.flat g) (fun x hx => by
        rcases gn_mem g lo h2 x hx h0 with h | h
        · exact ⟨by omega, by omega⟩
        · exact ⟨by omega, by omega⟩)]
      rfl
    · have hg2 : ¬ (0 < g.fin ∧ g.fin ≤ rev) := by unfold goneG at hg; simpa using hg
      have hgf := Bool.eq_false_iff.2 hg
      have hrest : compG gs rev = gs ∧ seenR rev (seenR rev c (Gn.flat g)) (flat gs) = seenR rev c (Gn.flat g) ∧ ∀ now, leftR now rev (flat gs) = flat gs := by
        rcases h3 with ⟨_, rfl⟩ | ⟨hf, h3⟩
        · exact ⟨rfl, rfl, fun _ => rfl⟩
        · have ha := flat_asc gs g.fin (by omega) h3
          exact ⟨comp_above rev gs g.fin (by omega) h3 (by omega), seenR_above _ _ _ _ ha (by omega), fun now => leftR_above now rev _ _ ha (by omega)⟩
      obtain ⟨r1, r2, r3⟩ := hrest
      have hcomp : compG (g :: gs) rev = cutG rev g :: gs := by
        have : compG (g :: gs) rev = cutG rev g :: compG gs rev := by unfold compG; rw [List.filter_cons, hgf]; rfl
        rw [this, r1]
      rw [hcomp, r2, r3]
      show Gn.flat (cutG rev g) ++ flat gs = _
      congr 1
      refine cut_flat rev g _ lo h2 hg2 (fun hz p hp e => ?_) (fun hz => ?_)
      · rw [if_pos hz] at hgs
        rw [hgs] at e
        have hp2 := (asc_mem _ _ h2 p hp).1
        unfold nowR at e
        rcases hc with hc | hc
        · rw [if_pos hc] at e; omega
        · by_cases hcg : c.gone = true
          · rw [if_pos hcg] at e; omega
          · rw [if_neg hcg] at e; omega
      · rw [if_neg hz] at hgs
        rw [hgs]
        unfold pickG nowR
        rw [if_neg hg2]
        rfl
/-- The order stays. -/
theorem okG_le {lo lo' : Int} {gs : List Gn} (h : okG lo gs) (hl : lo' ≤ lo) : okG lo' gs := by
  cases gs with
  | nil => trivial
  | cons g gs =>
    obtain ⟨h1, h2, h3⟩ := h
    refine ⟨h1, asc_le h2 hl, ?_⟩
    rcases h3 with h3 | h3
    · exact .inl h3
    · right; rw [lastI_any lo' lo h1]; exact h3
theorem asc_drop : ∀ (n : Nat) (l : List Int) (lo : Int), asc lo l → asc lo (l.drop n) := by
  intro n
  induction n with
  | zero => intro l lo h; simpa using h
  | succ n ih =>
    intro l lo h
    cases l with
    | nil => exact trivial
    | cons p l => rw [List.drop_succ_cons]; exact asc_le (ih l p h.2) (by have := h.1; omega)
theorem lastI_drop : ∀ (n : Nat) (l : List Int) (lo : Int), n < l.length → lastI lo (l.drop n) = lastI lo l := by
  intro n
  induction n with
  | zero => intro l lo _; simp
  | succ n ih =>
    intro l lo h
    cases l with
    | nil => simp at h
    | cons p l =>
      have hl : n < l.length := by simpa using h
      have hne : l.drop n ≠ [] := by intro e; have := congrArg List.length e; simp at this; omega
      rw [List.drop_succ_cons, lastI_any lo p hne, ih l p hl]
      rfl
theorem cutG_puts (rev : Int) (g : Gn) (lo : Int) (h1 : g.puts ≠ []) (h : asc lo g.puts) : (cutG rev g).puts ≠ [] ∧ asc lo (cutG rev g).puts ∧ lastI lo (cutG rev g).puts = lastI lo g.puts ∧ (cutG rev g).fin = g.fin := by
  unfold cutG
  by_cases hu : 1 < upTo g.puts rev
  · rw [if_pos hu]
    have hle := upTo_le g.puts rev
    refine ⟨?_, asc_drop _ _ _ h, lastI_drop _ _ _ (by omega), rfl⟩
    intro e
    have := congrArg List.length e
    simp only [List.length_drop, List.length_nil] at this
    omega
  · rw [if_neg hu]; exact ⟨h1, h, rfl, rfl⟩
theorem comp_ok (rev : Int) : ∀ (gs : List Gn) (lo : Int), 0 ≤ lo → okG lo gs → okG lo (compG gs rev) ∧ topG lo (compG gs rev) ≤ topG lo gs := by
  intro gs
  induction gs with
  | nil => intro lo _ _; exact ⟨trivial, Int.le_refl _⟩
  | cons g gs ih =>
    intro lo h0 hok
    have hok' := hok
    obtain ⟨h1, h2, h3⟩ := hok
    have hge := lastI_gt h2 h1
    by_cases hg : goneG rev g = true
    · have hg2 : 0 < g.fin ∧ g.fin ≤ rev := by unfold goneG at hg; simpa using hg
      obtain ⟨hf, h3⟩ : lastI lo g.puts < g.fin ∧ okG g.fin gs := by rcases h3 with h3 | h3; exact absurd h3.1 (by omega); exact h3
      have hcomp : compG (g :: gs) rev = compG gs rev := by unfold compG; rw [List.filter_cons, hg]; rfl
      have htop : topG lo (g :: gs) = topG g.fin gs := by show topG (if g.fin = 0 then _ else g.fin) gs = _; rw [if_neg (by omega)]
      obtain ⟨k1, k2⟩ := ih g.fin (by omega) h3
      rw [hcomp, htop]
      refine ⟨okG_le k1 (by omega), ?_⟩
      have key : ∀ (l : List Gn) (a b : Int), a ≤ b → topG a l ≤ topG b l := by
        intro l
        induction l with
        | nil => intro a b h; exact h
        | cons x l ihl =>
          intro a b h
          show topG (if x.fin = 0 then lastI a x.puts else x.fin) l ≤ topG (if x.fin = 0 then lastI b x.puts else x.fin) l
          refine ihl _ _ ?_
          by_cases hx : x.fin = 0
          · rw [if_pos hx, if_pos hx]
            cases hp : x.puts with
            | nil => exact h
            | cons p ps => exact Int.le_refl _
          · rw [if_neg hx, if_neg hx]; exact Int.le_refl _
      exact Int.le_trans (key _ _ _ (by omega)) k2
    · have hg2 : ¬ (0 < g.fin ∧ g.fin ≤ rev) := by unfold goneG at hg; simpa using hg
      have hgf := Bool.eq_false_iff.2 hg
      have hcomp : compG (g :: gs) rev = cutG rev g :: gs := by
        have : compG (g :: gs) rev = cutG rev g :: compG gs rev := by unfold compG; rw [List.filter_cons, hgf]; rfl
        rw [this]
        congr 1
        rcases h3 with ⟨_, rfl⟩ | ⟨hf, h3⟩
        · rfl
        · exact comp_above rev gs g.fin (by omega) h3 (by omega)
      obtain ⟨k1, k2, k3, k4⟩ := cutG_puts rev g lo h1 h2
      rw [hcomp]
      refine ⟨⟨k1, k2, by rw [k3, k4]; exact h3⟩, ?_⟩
      show topG (if (cutG rev g).fin = 0 then lastI lo (cutG rev g).puts else (cutG rev g).fin) gs ≤ topG (if g.fin = 0 then lastI lo g.puts else g.fin) gs
      rw [k3, k4]
      exact Int.le_refl _
end Go.Proofs.Ytnliapdhmjljiaa
