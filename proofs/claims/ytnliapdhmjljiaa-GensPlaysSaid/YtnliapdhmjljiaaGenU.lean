/- Plain: what a version counts. Conditions: as each theorem says. -/
import Derived.Test.YtnliapdhmjljiaaGenT
namespace Go.Proofs.Ytnliapdhmjljiaa

theorem last_with (u : Gn → Nat) : ∀ (gs : List Gn), (∀ x ∈ gs, u x = 0) ∨ ∃ A g B, gs = A ++ g :: B ∧ u g ≠ 0 ∧ ∀ x ∈ B, u x = 0 := by
  intro gs
  induction gs with
  | nil => left; simp
  | cons y gs ih =>
    rcases ih with h | ⟨A, g, B, e, h1, h2⟩
    · by_cases hy : u y = 0
      · left
        intro x hx
        rcases List.mem_cons.1 hx with rfl | hx
        · exact hy
        · exact h x hx
      · exact .inr ⟨[], y, gs, rfl, hy, h⟩
    · exact .inr ⟨y :: A, g, B, by rw [e]; rfl, h1, h2⟩
/-- What is seen is a put of the last generation that has one there. -/
theorem at_parts (gs : List Gn) (rev : Int) (h : okG 0 gs) : (atR (flat gs) rev = zeroC) ∨ ∃ A g B, gs = A ++ g :: B ∧ upTo g.puts rev ≠ 0 ∧ (∀ x ∈ B, upTo x.puts rev = 0) ∧ ¬ (0 < g.fin ∧ g.fin ≤ rev) ∧ atR (flat gs) rev = ⟨g.puts.getD (upTo g.puts rev - 1) 0, g.cr, g.cut + (upTo g.puts rev : Int), false⟩ := by
  have hf := flat_seen rev gs 0 zeroC h
  rcases last_with (fun g => upTo g.puts rev) gs with h1 | ⟨A, g, B, e, h1, h2⟩
  · left
    unfold atR
    rw [hf, seenG_none rev gs zeroC h1]
    rfl
  · have hs := seenG_last rev A B g zeroC h1 h2
    rw [← e, ← hf] at hs
    by_cases hg : 0 < g.fin ∧ g.fin ≤ rev
    · left
      unfold atR
      rw [hs]
      unfold pickG
      rw [if_pos hg]; rfl
    · right
      refine ⟨A, g, B, e, h1, h2, hg, ?_⟩
      unfold atR
      rw [hs]
      unfold pickG
      rw [if_neg hg]; rfl
theorem okG_tail : ∀ (A : List Gn) (lo : Int) (g : Gn) (B : List Gn), okG lo (A ++ g :: B) → ∃ lo', lo ≤ lo' ∧ okG lo' (g :: B) ∧ (0 ≤ lo → ∀ c ∈ flat A, c.rev ≤ lo') := by
  intro A
  induction A with
  | nil => intro lo g B h; exact ⟨lo, Int.le_refl _, h, fun _ c hc => by simp [flat] at hc⟩
  | cons x A ih =>
    intro lo g B h
    obtain ⟨h1, h2, h3⟩ := h
    have h4 : lastI lo x.puts < x.fin ∧ okG x.fin (A ++ g :: B) := by rcases h3 with h3 | h3; exact absurd h3.2 (by simp); exact h3
    have hge := lastI_gt h2 h1
    obtain ⟨lo', k1, k2, k3⟩ := ih x.fin g B h4.2
    refine ⟨lo', by omega, k2, fun h0 c hc => ?_⟩
    have e : flat (x :: A) = Gn.flat x ++ flat A := rfl
    rw [e] at hc
    rcases List.mem_append.1 hc with hc | hc
    · rcases gn_mem x lo h2 c hc h0 with hh | hh <;> omega
    · exact k3 (by omega) c hc
/-- No put was ever cut off. -/
def wholeG (gs : List Gn) : Prop := ∀ g ∈ gs, g.cut = 0 ∧ g.puts.head? = some g.cr
theorem whole_put (rev : Int) : ∀ (gs : List Gn), wholeG gs → wholeG (putG gs rev) := by
  intro gs
  induction gs with
  | nil => intro _ g hg; simp only [putG, List.mem_cons, List.not_mem_nil, or_false] at hg; subst hg; exact ⟨rfl, rfl⟩
  | cons g gs ih =>
    intro h
    cases gs with
    | nil =>
      have hg := h g (by simp)
      unfold putG
      split
      · intro x hx
        simp only [List.mem_cons, List.not_mem_nil, or_false] at hx
        subst hx
        refine ⟨hg.1, ?_⟩
        show (g.puts ++ [rev]).head? = some g.cr
        rw [List.head?_append, hg.2]; rfl
      · intro x hx
        simp only [List.mem_cons, List.not_mem_nil, or_false] at hx
        rcases hx with rfl | rfl
        · exact hg
        · exact ⟨rfl, rfl⟩
    | cons y gs =>
      intro x hx
      rcases List.mem_cons.1 hx with rfl | hx
      · exact h x (by simp)
      · exact ih (fun z hz => h z (by simp [hz])) x hx
theorem whole_tomb (rev : Int) : ∀ (gs : List Gn), wholeG gs → wholeG (tombG gs rev) := by
  intro gs
  induction gs with
  | nil => intro h; exact h
  | cons g gs ih =>
    intro h
    cases gs with
    | nil =>
      intro x hx
      simp only [tombG, List.mem_cons, List.not_mem_nil, or_false] at hx
      subst hx
      exact h g (by simp)
    | cons y gs =>
      intro x hx
      rcases List.mem_cons.1 hx with rfl | hx
      · exact h x (by simp)
      · exact ih (fun z hz => h z (by simp [hz])) x hx
theorem upTo_split (rev : Int) : ∀ (l : List Int) (lo : Int), asc lo l → (∀ p ∈ l.take (upTo l rev), p ≤ rev) ∧ (∀ p ∈ l.drop (upTo l rev), rev < p) := by
  intro l
  induction l with
  | nil => intro lo _; simp [upTo]
  | cons p l ih =>
    intro lo h
    obtain ⟨k1, k2⟩ := ih p h.2
    rw [upTo_cons]
    by_cases hp : p ≤ rev
    · rw [if_pos hp, List.take_succ_cons, List.drop_succ_cons]
      refine ⟨fun q hq => ?_, k2⟩
      rcases List.mem_cons.1 hq with rfl | hq
      · exact hp
      · exact k1 q hq
    · rw [if_neg hp]
      refine ⟨by simp, fun q hq => ?_⟩
      rw [List.drop_zero] at hq
      rcases List.mem_cons.1 hq with rfl | hq
      · omega
      · have := (asc_mem l p h.2 q hq).1; omega
theorem getD_take_last (l : List Int) (lo : Int) (n : Nat) (hn : n ≤ l.length) (h0 : n ≠ 0) (h : asc lo l) : (∀ p ∈ l.take n, p ≤ l.getD (n - 1) 0) ∧ ∀ p ∈ l.drop n, l.getD (n - 1) 0 < p := by
  have hl : l.getD (n - 1) 0 = l[n - 1]'(by omega) := by simp [List.getD, show n - 1 < l.length by omega]
  have key : ∀ (l : List Int) (lo : Int), asc lo l → ∀ i j (hi : i < l.length) (hj : j < l.length), i < j → l[i] < l[j] := by
    intro l
    induction l with
    | nil => intro lo _ i j hi; simp at hi
    | cons p l ih =>
      intro lo h i j hi hj hij
      cases i with
      | zero =>
        cases j with
        | zero => omega
        | succ j => exact (asc_mem l p h.2 _ (List.getElem_mem _)).1
      | succ i =>
        cases j with
        | zero => omega
        | succ j => exact ih p h.2 i j (by simpa using hi) (by simpa using hj) (by omega)
  rw [hl]
  refine ⟨fun p hp => ?_, fun p hp => ?_⟩
  · obtain ⟨i, hi, rfl⟩ := List.mem_iff_getElem.1 hp
    simp only [List.length_take] at hi
    rw [List.getElem_take]
    rcases Nat.lt_or_ge i (n - 1) with h1 | h1
    · exact Int.le_of_lt (key l lo h i (n - 1) (by omega) (by omega) h1)
    · have : i = n - 1 := by omega
      subst this; exact Int.le_refl _
  · obtain ⟨i, hi, rfl⟩ := List.mem_iff_getElem.1 hp
    simp only [List.length_drop] at hi
    rw [List.getElem_drop]
    exact key l lo h (n - 1) (n + i) (by omega) (by omega) (by omega)
theorem chs_filter (cr x : Int) : ∀ (l : List Int) (v : Int), (∀ p ∈ l, x ≤ p) → (chsFrom cr v l).filter (fun c => decide (x ≤ c.rev)) = chsFrom cr v l := by
  intro l
  induction l with
  | nil => intro v _; rfl
  | cons p l ih =>
    intro v h
    simp only [chsFrom]
    rw [List.filter_cons, if_pos (by simpa using h p (by simp)), ih (v + 1) (fun q hq => h q (by simp [hq]))]
theorem chs_map (cr : Int) : ∀ (l : List Int) (v : Int), (chsFrom cr v l).map (fun c => (c.rev, c.gone)) = l.map fun p => (p, false) := by
  intro l
  induction l with
  | nil => intro v; rfl
  | cons p l ih => intro v; simp [chsFrom, ih]
/-- THE LAW's answer: the changes since the creation begin with the puts that the version counts. -/
theorem counts_law (gs : List Gn) (rev : Int) (h : okG 0 gs) (hw : wholeG gs) (hs : atR (flat gs) rev ≠ zeroC) : ∃ (P : List Int) (Q : List (Int × Bool)),
    ((flat gs).filter fun c => decide ((atR (flat gs) rev).cr ≤ c.rev)).map (fun c => (c.rev, c.gone)) = P.map (fun p => (p, false)) ++ Q ∧ (P.length : Int) = (atR (flat gs) rev).ver ∧ P.head? = some (atR (flat gs) rev).cr ∧ (∀ p ∈ P, p ≤ (atR (flat gs) rev).rev) ∧ (∀ q ∈ Q, (atR (flat gs) rev).rev < q.1) ∧
    1 ≤ (atR (flat gs) rev).cr ∧ (atR (flat gs) rev).cr ≤ (atR (flat gs) rev).rev ∧ (atR (flat gs) rev).rev ≤ rev := by
  rcases at_parts gs rev h with h0 | ⟨A, g, B, e, hu, hB, hg, ha⟩
  · exact absurd h0 hs
  obtain ⟨lo', k1, k2, k3⟩ := okG_tail A 0 g B (by rw [← e]; exact h)
  have k3 := k3 (Int.le_refl _)
  obtain ⟨hc0, hhd⟩ := hw g (by rw [e]; simp)
  obtain ⟨h1, h2, h3⟩ := k2
  have hle := upTo_le g.puts rev
  obtain ⟨s1, s2⟩ := upTo_split rev g.puts lo' h2
  obtain ⟨t1, t2⟩ := getD_take_last g.puts lo' _ hle hu h2
  have hmem : g.puts.getD (upTo g.puts rev - 1) 0 ∈ g.puts.take (upTo g.puts rev) := by
    have hlt : upTo g.puts rev - 1 < g.puts.length := by omega
    have : g.puts.getD (upTo g.puts rev - 1) 0 = (g.puts.take (upTo g.puts rev))[upTo g.puts rev - 1]'(by simp; omega) := by
      rw [List.getElem_take]; simp [List.getD, hlt]
    rw [this]; exact List.getElem_mem _
  rw [ha]
  simp only
  generalize hn : upTo g.puts rev = n at *
  generalize hm : g.puts.getD (n - 1) 0 = m at *
  cases hp : g.puts with
  | nil => exact absurd hp h1
  | cons p0 ps =>
    have hp0 : p0 = g.cr := by rw [hp] at hhd; simpa using hhd
    have hall : ∀ p ∈ g.puts, g.cr ≤ p := by
      intro p hpp
      rw [hp] at hpp h2
      rcases List.mem_cons.1 hpp with rfl | hpp
      · omega
      · have := (asc_mem ps p0 h2.2 p hpp).1; omega
    have hcrlo : lo' < g.cr := by rw [hp] at h2; have := h2.1; omega
    have hfA : (flat A).filter (fun c => decide (g.cr ≤ c.rev)) = [] := by
      rw [List.filter_eq_nil_iff]
      intro c hc
      have := k3 c hc
      simp; omega
    have hrest : ∀ c ∈ finC g.fin ++ flat B, g.cr ≤ c.rev ∧ m < c.rev := by
      intro c hc
      have hlast : ∀ p ∈ g.puts, p ≤ lastI lo' g.puts := fun p hpp => (asc_mem _ _ h2 p hpp).2
      have hmp : m ∈ g.puts := List.mem_of_mem_take hmem
      have hml := hlast m hmp
      have hcl : g.cr ≤ lastI lo' g.puts := by have := hlast p0 (by rw [hp]; simp); omega
      rcases h3 with ⟨hf, rfl⟩ | ⟨hf, h3⟩
      · rw [hf] at hc; simp [finC, flat] at hc
      · rcases List.mem_append.1 hc with hc | hc
        · unfold finC at hc
          rw [if_pos (by have := lastI_gt h2 h1; omega)] at hc
          simp only [List.mem_cons, List.not_mem_nil, or_false] at hc
          subst hc
          simp only; omega
        · have := asc_gt _ _ (flat_asc B g.fin (by have := lastI_gt h2 h1; omega) h3) c hc
          omega
    refine ⟨g.puts.take n, (g.puts.drop n).map (fun p => (p, false)) ++ (finC g.fin ++ flat B).map (fun c => (c.rev, c.gone)), ?_, ?_, ?_, ?_, ?_, ?_, ?_, ?_⟩
    · have ef : flat gs = flat A ++ (chsFrom g.cr (g.cut + 1) g.puts ++ (finC g.fin ++ flat B)) := by
        rw [e]; simp only [flat, List.flatMap_append, List.flatMap_cons, Gn.flat, List.append_assoc]
      rw [ef, List.filter_append, hfA, List.nil_append, List.filter_append, chs_filter _ _ _ _ hall, List.map_append, chs_map]
      have hfr : (finC g.fin ++ flat B).filter (fun c => decide (g.cr ≤ c.rev)) = finC g.fin ++ flat B := by
        rw [List.filter_eq_self]
        intro c hc
        have := (hrest c hc).1
        simpa using this
      rw [hfr, ← List.append_assoc, ← List.map_append, List.take_append_drop]
    · rw [List.length_take, hc0]; omega
    · rw [← hp0, hp]
      obtain ⟨k, hk⟩ : ∃ k, n = k + 1 := ⟨n - 1, by omega⟩
      rw [hk]; rfl
    · exact t1
    · intro q hq
      rcases List.mem_append.1 hq with hq | hq
      · obtain ⟨p, hpd, rfl⟩ := List.mem_map.1 hq
        exact t2 p hpd
      · obtain ⟨c, hc, rfl⟩ := List.mem_map.1 hq
        exact (hrest c hc).2
    · omega
    · exact hall m (List.mem_of_mem_take hmem)
    · exact s1 m hmem
end Go.Proofs.Ytnliapdhmjljiaa
