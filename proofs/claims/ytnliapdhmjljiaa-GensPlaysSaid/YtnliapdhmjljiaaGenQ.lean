/- Plain: what a key shows, which changes there are from a revision on, what Compact leaves. Conditions: as each theorem says. -/
import Derived.Test.YtnliapdhmjljiaaGenP
namespace Go.Proofs.Ytnliapdhmjljiaa

theorem upTo_all : ∀ (l : List Int) (lo rev : Int), asc lo l → lastI lo l ≤ rev → upTo l rev = l.length := by
  intro l
  induction l with
  | nil => intro lo rev _ _; rfl
  | cons p l ih =>
    intro lo rev h hr
    have hg := lastI_ge l p h.2
    have : lastI lo (p :: l) = lastI p l := rfl
    rw [upTo_cons, if_pos (by omega), ih p rev h.2 (by omega)]; rfl
theorem getD_last : ∀ (l : List Int) (lo : Int), l ≠ [] → l.getD (l.length - 1) 0 = lastI lo l := by
  intro l
  induction l with
  | nil => intro lo h; exact absurd rfl h
  | cons p l ih =>
    intro lo _
    cases l with
    | nil => rfl
    | cons q l => exact ih p (by simp)
/-- What is seen behind all changes. -/
theorem at_now (rev : Int) : ∀ (gs : List Gn) (lo : Int) (c : Ch), 0 ≤ lo → okG lo gs → topG lo gs ≤ rev → gs ≠ [] →
    seenR rev c (flat gs) = if openB gs = true then ⟨topG lo gs, (gs.getLastD default).cr, (gs.getLastD default).cut + ((gs.getLastD default).puts.length : Int), false⟩ else ⟨topG lo gs, 0, 0, true⟩ := by
  intro gs
  induction gs with
  | nil => intro lo c _ _ _ h; exact absurd rfl h
  | cons g gs ih =>
    intro lo c h0 hok ht _
    have hfs := flat_seen rev (g :: gs) lo c hok
    obtain ⟨h1, h2, h3⟩ := hok
    have hge := lastI_ge _ _ h2
    cases gs with
    | nil =>
      rw [hfs]
      show (if upTo g.puts rev = 0 then c else pickG g rev) = _
      have htop : topG lo [g] = if g.fin = 0 then lastI lo g.puts else g.fin := rfl
      have hle : lastI lo g.puts ≤ rev := by
        by_cases hf : g.fin = 0
        · rw [if_pos hf] at htop; omega
        · rw [if_neg hf] at htop
          rcases h3 with h3 | h3
          · exact absurd h3.1 hf
          · omega
      have hu := upTo_all _ _ _ h2 hle
      have hpos : g.puts.length ≠ 0 := fun e => h1 (List.length_eq_zero_iff.1 e)
      rw [if_neg (by omega)]
      unfold pickG
      by_cases hf : g.fin = 0
      · rw [if_neg (by omega), hu, getD_last _ lo h1]
        simp only [openB, hf, decide_true, if_true, List.getLastD_cons, List.getLastD_nil]
        rw [htop, if_pos hf]
      · have hf2 : lastI lo g.puts < g.fin := by rcases h3 with h3 | h3; exact absurd h3.1 hf; exact h3.1
        rw [if_neg hf] at htop
        rw [if_pos ⟨by omega, by omega⟩]
        simp only [openB, decide_eq_false hf, Bool.false_eq_true, if_false]
        rw [htop]
    | cons h gs =>
      have h4 : lastI lo g.puts < g.fin ∧ okG g.fin (h :: gs) := by rcases h3 with h3 | h3; exact absurd h3.2 (by simp); exact h3
      have htop : topG lo (g :: h :: gs) = topG g.fin (h :: gs) := by show topG (if g.fin = 0 then _ else g.fin) (h :: gs) = _; rw [if_neg (by omega)]
      show seenR rev c (Gn.flat g ++ flat (h :: gs)) = _
      rw [seenR_append, ih g.fin _ (by omega) h4.2 (by omega) (by simp), htop]
      rfl
theorem tomb_ok (rev : Int) : ∀ (gs : List Gn) (lo : Int), 0 ≤ lo → okG lo gs → topG lo gs < rev → openB gs = true → okG lo (tombG gs rev) ∧ topG lo (tombG gs rev) = rev ∧ flat (tombG gs rev) = flat gs ++ [⟨rev, 0, 0, true⟩] := by
  intro gs
  induction gs with
  | nil => intro lo _ _ _ h; simp [openB] at h
  | cons g gs ih =>
    intro lo h0 hok ht ho
    obtain ⟨h1, h2, h3⟩ := hok
    have hge := lastI_ge _ _ h2
    cases gs with
    | nil =>
      have hf : g.fin = 0 := by simpa [openB] using ho
      have ht' : lastI lo g.puts < rev := by
        have : topG lo [g] = lastI lo g.puts := by show topG (if g.fin = 0 then _ else _) [] = _; rw [if_pos hf]; rfl
        omega
      refine ⟨⟨h1, h2, .inr ⟨ht', trivial⟩⟩, ?_, ?_⟩
      · show topG (if rev = 0 then _ else rev) [] = rev
        rw [if_neg (by omega)]; rfl
      · have hr : 0 < rev := by omega
        simp [tombG, flat, Gn.flat, finC, hf, hr]
    | cons h gs =>
      have h4 : lastI lo g.puts < g.fin ∧ okG g.fin (h :: gs) := by rcases h3 with h3 | h3; exact absurd h3.2 (by simp); exact h3
      have htop : topG lo (g :: h :: gs) = topG g.fin (h :: gs) := by show topG (if g.fin = 0 then _ else g.fin) (h :: gs) = _; rw [if_neg (by omega)]
      obtain ⟨k1, k2, k3⟩ := ih g.fin (by omega) h4.2 (by omega) ho
      refine ⟨⟨h1, h2, .inr ⟨h4.1, k1⟩⟩, ?_, ?_⟩
      · show topG (if g.fin = 0 then _ else g.fin) (tombG (h :: gs) rev) = rev
        rw [if_neg (by omega)]; exact k2
      · show Gn.flat g ++ flat (tombG (h :: gs) rev) = (Gn.flat g ++ flat (h :: gs)) ++ _
        rw [k3, List.append_assoc]
/-! Since. -/
def sinceG (gs : List Gn) (rev : Int) : List (Int × Bool) := gs.flatMap fun g => (g.puts.filter fun p => decide (rev ≤ p)).map (fun p => (p, false)) ++ if 0 < g.fin ∧ rev ≤ g.fin then [(g.fin, true)] else []
theorem since_eq (rev : Int) (gs : List Gn) : sinceG gs rev = ((flat gs).filter fun c => decide (rev ≤ c.rev)).map fun c => (c.rev, c.gone) := by
  induction gs with
  | nil => rfl
  | cons g gs ih =>
    have e1 : sinceG (g :: gs) rev = ((g.puts.filter fun p => decide (rev ≤ p)).map (fun p => (p, false)) ++ if 0 < g.fin ∧ rev ≤ g.fin then [(g.fin, true)] else []) ++ sinceG gs rev := rfl
    have e2 : flat (g :: gs) = (chsFrom g.cr (g.cut + 1) g.puts ++ finC g.fin) ++ flat gs := rfl
    rw [e1, e2, ih, List.filter_append, List.map_append, List.filter_append, List.map_append]
    congr 1
    have key : ∀ (l : List Int) (v : Int), ((chsFrom g.cr v l).filter fun c => decide (rev ≤ c.rev)).map (fun c => (c.rev, c.gone)) = (l.filter fun p => decide (rev ≤ p)).map (fun p => (p, false)) := by
      intro l
      induction l with
      | nil => intro v; rfl
      | cons p l ih => intro v; simp only [chsFrom, List.filter_cons]; by_cases hp : rev ≤ p <;> simp [hp, ih]
    rw [key]
    congr 1
    unfold finC
    by_cases h0 : 0 < g.fin <;> by_cases h1 : rev ≤ g.fin <;> simp [h0, h1]
/-! Compact. -/
def cutG (rev : Int) (g : Gn) : Gn := if 1 < upTo g.puts rev then { g with cut := g.cut + ((upTo g.puts rev : Int) - 1), puts := g.puts.drop (upTo g.puts rev - 1) } else g
def goneG (rev : Int) (g : Gn) : Bool := decide (0 < g.fin) && decide (g.fin ≤ rev)
def compG (gs : List Gn) (rev : Int) : List Gn := (gs.filter fun g => !goneG rev g).map (cutG rev)
/-- What is left: what is later, and what is seen. -/
def leftR (now rev : Int) (L : List Ch) : List Ch := L.filter fun c => decide (rev < c.rev) || decide (c.rev = now)
theorem leftR_append (now rev : Int) (a b : List Ch) : leftR now rev (a ++ b) = leftR now rev a ++ leftR now rev b := by unfold leftR; rw [List.filter_append]
theorem leftR_above (now rev : Int) : ∀ (l : List Ch) (lo : Int), ascC lo l → rev ≤ lo → leftR now rev l = l := by
  intro l lo h hr
  unfold leftR
  rw [List.filter_eq_self]
  intro c hc
  have := asc_gt l lo h c hc
  simp; omega
theorem leftR_none (now rev : Int) (l : List Ch) (h : ∀ c ∈ l, c.rev ≤ rev ∧ c.rev ≠ now) : leftR now rev l = [] := by
  unfold leftR
  rw [List.filter_eq_nil_iff]
  intro c hc
  have := h c hc
  simp; omega
theorem comp_above (rev : Int) : ∀ (gs : List Gn) (lo : Int), 0 ≤ lo → okG lo gs → rev ≤ lo → compG gs rev = gs := by
  intro gs
  induction gs with
  | nil => intro lo _ _ _; rfl
  | cons g gs ih =>
    intro lo h0 h hr
    obtain ⟨h1, h2, h3⟩ := h
    have hge := lastI_gt h2 h1
    have hu := upTo_none h2 hr
    have hg : goneG rev g = false := by
      unfold goneG
      rcases h3 with h3 | h3
      · rw [h3.1]; simp
      · simp only [Bool.and_eq_false_iff, decide_eq_false_iff_not]; right; omega
    have hc : cutG rev g = g := by unfold cutG; rw [if_neg (by omega)]
    have htl : compG gs rev = gs := by
      rcases h3 with ⟨_, rfl⟩ | ⟨hf, h3⟩
      · rfl
      · exact ih g.fin (by omega) h3 (by omega)
    unfold compG at htl ⊢
    rw [List.filter_cons, hg]
    simp only [Bool.not_false, if_true, List.map_cons, hc]
    rw [htl]
theorem chs_drop (cr : Int) : ∀ (n : Nat) (l : List Int) (v : Int), (chsFrom cr v l).drop n = chsFrom cr (v + n) (l.drop n) := by
  intro n
  induction n with
  | zero => intro l v; simp
  | succ n ih =>
    intro l v
    cases l with
    | nil => simp [chsFrom]
    | cons p l => simp only [chsFrom, List.drop_succ_cons, ih]; congr 1; omega
/-- The puts of a generation at and ahead of a revision: the last one of them is left. -/
theorem chs_left (cr rev : Int) : ∀ (l : List Int) (lo v now : Int), asc lo l → (upTo l rev = 0 → ∀ p ∈ l, p ≠ now) → (upTo l rev ≠ 0 → now = l.getD (upTo l rev - 1) 0) → leftR now rev (chsFrom cr v l) = (chsFrom cr v l).drop (upTo l rev - 1) := by
  intro l
  induction l with
  | nil => intro lo v now _ _ _; simp [chsFrom, leftR]
  | cons p l ih =>
    intro lo v now h hz hn
    rw [upTo_cons] at hz hn ⊢
    by_cases hp : p ≤ rev
    · rw [if_pos hp] at hn ⊢
      have hnow := hn (by omega)
      rw [Nat.add_sub_cancel] at hnow ⊢
      by_cases h0 : upTo l rev = 0
      · rw [h0] at hnow ⊢
        have hnp : now = p := by simpa using hnow
        have htl : leftR now rev (chsFrom cr (v + 1) l) = chsFrom cr (v + 1) l := by
          have := ih p (v + 1) now h.2 (fun _ q hq => by have := (asc_mem l p h.2 q hq).1; omega) (fun hh => absurd h0 hh)
          rw [h0] at this
          simpa using this
        simp only [chsFrom, List.drop_zero]
        unfold leftR at htl ⊢
        rw [List.filter_cons, if_pos (by simp [hnp]), htl]
      · rw [if_pos hp] at hz
        obtain ⟨k, hk⟩ : ∃ k, upTo l rev = k + 1 := ⟨upTo l rev - 1, by omega⟩
        have hnow' : now = l.getD k 0 := by rw [hk] at hnow; simpa using hnow
        have hkl : k < l.length := by have := upTo_le l rev; omega
        have hmem : now ∈ l := by rw [hnow']; simp [List.getD, hkl]
        have hgt := (asc_mem l p h.2 now hmem).1
        have htl := ih p (v + 1) now h.2 (fun hh => absurd hh h0) (fun _ => by rw [hk]; simpa using hnow')
        rw [hk] at htl ⊢
        simp only [Nat.add_sub_cancel] at htl
        simp only [chsFrom, List.drop_succ_cons]
        unfold leftR at htl ⊢
        rw [List.filter_cons, if_neg (by simp; omega), htl]
    · rw [if_neg hp] at hz ⊢
      have hall : ∀ q ∈ (p :: l), rev < q := by
        intro q hq
        rcases List.mem_cons.1 hq with rfl | hq
        · omega
        · have := (asc_mem l p h.2 q hq).1; omega
      rw [Nat.zero_sub, List.drop_zero]
      exact leftR_above now rev _ rev (by
        have := chs_asc cr (p :: l) rev v [] ⟨by omega, h.2⟩ trivial
        simpa using this) (Int.le_refl _)
end Go.Proofs.Ytnliapdhmjljiaa
