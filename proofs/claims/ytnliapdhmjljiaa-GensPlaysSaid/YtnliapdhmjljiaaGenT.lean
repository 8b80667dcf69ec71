/- Plain: the laws of a key: what is kept, counted, risen, refused. Conditions: as each theorem says. -/
import Derived.Test.YtnliapdhmjljiaaGenS
namespace Go.Proofs.Ytnliapdhmjljiaa

theorem seenR_indep (rev : Int) (l : List Ch) : (∀ c, seenR rev c l = c) ∨ (∃ x, ∀ c, seenR rev c l = x) := by
  induction l with
  | nil => exact .inl fun _ => rfl
  | cons y l ih =>
    by_cases hy : y.rev ≤ rev
    · right
      rcases ih with h | ⟨x, h⟩
      · exact ⟨y, fun c => by show seenR rev (if y.rev ≤ rev then y else c) l = y; rw [if_pos hy]; exact h y⟩
      · exact ⟨x, fun c => h _⟩
    · rcases ih with h | ⟨x, h⟩
      · exact .inl fun c => by show seenR rev (if y.rev ≤ rev then y else c) l = c; rw [if_neg hy]; exact h c
      · exact .inr ⟨x, fun c => h _⟩
/-- An ascending row parted at a revision. -/
theorem asc_part : ∀ (L : List Ch) (lo mark : Int), ascC lo L → ∃ A B, L = A ++ B ∧ (∀ c ∈ A, c.rev ≤ mark) ∧ (∀ c ∈ B, mark < c.rev) := by
  intro L
  induction L with
  | nil => intro lo mark _; exact ⟨[], [], rfl, by simp, by simp⟩
  | cons x L ih =>
    intro lo mark h
    by_cases hx : x.rev ≤ mark
    · obtain ⟨A, B, e, h1, h2⟩ := ih x.rev mark h.2
      refine ⟨x :: A, B, by rw [e]; rfl, ?_, h2⟩
      intro c hc
      rcases List.mem_cons.1 hc with rfl | hc
      · exact hx
      · exact h1 c hc
    · refine ⟨[], x :: L, rfl, by simp, ?_⟩
      intro c hc
      rcases List.mem_cons.1 hc with rfl | hc
      · omega
      · have := asc_gt L x.rev h.2 c hc; omega
theorem seenR_all (rev : Int) (c : Ch) : ∀ (A : List Ch), (∀ x ∈ A, x.rev ≤ rev) → seenR rev c A = A.getLastD c := by
  intro A
  induction A generalizing c with
  | nil => intro _; rfl
  | cons x A ih =>
    intro h
    show seenR rev (if x.rev ≤ rev then x else c) A = _
    rw [if_pos (h x (by simp)), ih x (fun y hy => h y (by simp [hy]))]
    cases A <;> rfl
theorem seenR_no (rev : Int) (c : Ch) : ∀ (B : List Ch), (∀ x ∈ B, rev < x.rev) → seenR rev c B = c := by
  intro B
  induction B with
  | nil => intro _; rfl
  | cons x B ih =>
    intro h
    show seenR rev (if x.rev ≤ rev then x else c) B = c
    rw [if_neg (by have := h x (by simp); omega)]
    exact ih (fun y hy => h y (by simp [hy]))
theorem asc_snoc_lt : ∀ (A : List Ch) (lo : Int) (a : Ch) (r : List Ch), ascC lo (A ++ a :: r) → ∀ x ∈ A, x.rev < a.rev := by
  intro A
  induction A with
  | nil => intro lo a r _ x hx; simp at hx
  | cons y A ih =>
    intro lo a r h x hx
    rcases List.mem_cons.1 hx with rfl | hx
    · exact asc_gt _ _ h.2 a (by simp)
    · exact ih y.rev a r h.2 x hx
/-- What is left of the changes up to a mark: the last one, if it is a put. -/
def restA (A : List Ch) : List Ch := match A.getLast? with | none => [] | some a => if a.gone = true then [] else [a]
theorem left_parts (L : List Ch) (mark : Int) (h : ascC 0 L) : ∃ A B, L = A ++ B ∧ (∀ c ∈ A, c.rev ≤ mark) ∧ (∀ c ∈ B, mark < c.rev) ∧ leftR (atR L mark).rev mark L = restA A ++ B := by
  obtain ⟨A, B, e, h1, h2⟩ := asc_part L 0 mark h
  refine ⟨A, B, e, h1, h2, ?_⟩
  have hs : seenR mark zeroC L = A.getLastD zeroC := by rw [e, seenR_append, seenR_all mark zeroC A h1, seenR_no mark _ B h2]
  have hB : ∀ now, leftR now mark B = B := by
    intro now
    unfold leftR
    rw [List.filter_eq_self]
    intro c hc
    have := h2 c hc
    simp; omega
  have hpos : ∀ c ∈ L, 0 < c.rev := asc_gt L 0 h
  generalize hn : (atR L mark).rev = now
  have hnow : now = nowR (A.getLastD zeroC) := by
    rw [← hn, ← hs]; unfold atR nowR; split <;> rfl
  rw [e, leftR_append, hB]
  congr 1
  rcases List.eq_nil_or_concat A with hA | ⟨A0, a, hA⟩
  · subst hA; rfl
  · rw [List.concat_eq_append] at hA
    subst hA
    have hl : (A0 ++ [a]).getLastD zeroC = a := by simp [List.getLastD_eq_getLast?]
    have hl2 : (A0 ++ [a]).getLast? = some a := by simp
    rw [hl] at hnow
    have hlt : ∀ x ∈ A0, x.rev < a.rev := asc_snoc_lt A0 0 a B (by rw [e] at h; simpa using h)
    have hap : 0 < a.rev := hpos a (by rw [e]; simp)
    unfold restA
    rw [hl2]
    simp only
    by_cases hg : a.gone = true
    · rw [if_pos hg]
      have h0 : now = 0 := by rw [hnow]; unfold nowR; rw [if_pos hg]
      refine leftR_none _ _ _ (fun x hx => ⟨h1 x hx, ?_⟩)
      have := hpos x (by rw [e]; exact List.mem_append_left _ hx)
      omega
    · rw [if_neg hg]
      have h0 : now = a.rev := by rw [hnow]; unfold nowR; rw [if_neg hg]
      rw [leftR_append, leftR_none _ _ A0 (fun x hx => ⟨h1 x (by simp [hx]), by have := hlt x hx; omega⟩)]
      unfold leftR
      simp [h0]
/-- What is seen at the mark or behind it stays. -/
theorem keeps_at (L : List Ch) (mark rev : Int) (h : ascC 0 L) (hr : mark ≤ rev) : atR (leftR (atR L mark).rev mark L) rev = atR L rev := by
  obtain ⟨A, B, e, h1, h2, h3⟩ := left_parts L mark h
  rw [h3]
  have hA := seenR_all rev zeroC A (fun c hc => by have := h1 c hc; omega)
  have e1 : seenR rev zeroC L = seenR rev (A.getLastD zeroC) B := by rw [e, seenR_append, hA]
  have e2 : seenR rev zeroC (restA A ++ B) = seenR rev (seenR rev zeroC (restA A)) B := seenR_append _ _ _ _
  have key : seenR rev zeroC (restA A) = A.getLastD zeroC ∨ ((A.getLastD zeroC).gone = true ∧ seenR rev zeroC (restA A) = zeroC) := by
    unfold restA
    rw [List.getLastD_eq_getLast?]
    cases hl : A.getLast? with
    | none => left; rfl
    | some a =>
      simp only [Option.getD_some]
      by_cases hg : a.gone = true
      · right; rw [if_pos hg]; exact ⟨hg, rfl⟩
      · left; rw [if_neg hg]
        have ha : a.rev ≤ mark := h1 a (List.mem_of_getLast? hl)
        show (if a.rev ≤ rev then a else zeroC) = a
        rw [if_pos (by omega)]
  unfold atR
  rw [e1, e2]
  rcases key with k | ⟨k1, k2⟩
  · rw [k]
  · rw [k2]
    rcases seenR_indep rev B with hi | ⟨x, hi⟩
    · rw [hi, hi, if_pos k1]; rfl
    · rw [hi, hi]
theorem keeps_since (L : List Ch) (mark rev now : Int) (hr : mark < rev) : (leftR now mark L).filter (fun c => decide (rev ≤ c.rev)) = L.filter (fun c => decide (rev ≤ c.rev)) := by
  unfold leftR
  rw [List.filter_filter]
  congr 1
  funext c
  by_cases hc : rev ≤ c.rev
  · have : mark < c.rev := by omega
    simp [hc, this]
  · simp [hc]
/-- One change up to the mark is left at most, and it is a put. -/
theorem keeps_old (L : List Ch) (mark : Int) (h : ascC 0 L) : ∃ X B, leftR (atR L mark).rev mark L = X ++ B ∧ X.length ≤ 1 ∧ (∀ c ∈ X, c.gone = false ∧ c.rev ≤ mark) ∧ (∀ c ∈ B, mark < c.rev) := by
  obtain ⟨A, B, e, h1, h2, h3⟩ := left_parts L mark h
  refine ⟨restA A, B, h3, ?_, ?_, h2⟩
  · unfold restA
    cases A.getLast? with
    | none => simp
    | some a => simp only; split <;> simp
  · intro c hc
    unfold restA at hc
    cases hl : A.getLast? with
    | none => rw [hl] at hc; simp at hc
    | some a =>
      rw [hl] at hc
      simp only at hc
      by_cases hg : a.gone = true
      · rw [if_pos hg] at hc; simp at hc
      · rw [if_neg hg] at hc
        simp only [List.mem_cons, List.not_mem_nil, or_false] at hc
        subst hc
        exact ⟨Bool.eq_false_iff.2 hg, h1 c (List.mem_of_getLast? hl)⟩
/-! Rises. -/
/-- No tombstone behind another one or at the front. -/
def altC : Bool → List Ch → Prop
  | _, [] => True
  | free, c :: cs => (c.gone = true → free = true) ∧ altC (!c.gone) cs
theorem chs_alt (cr : Int) : ∀ (l : List Int) (v : Int) (f : Bool) (r : List Ch), (l ≠ [] → altC true r) → (l = [] → altC f r) → altC f (chsFrom cr v l ++ r) := by
  intro l
  induction l with
  | nil => intro v f r _ h; exact h rfl
  | cons p l ih =>
    intro v f r h _
    refine ⟨fun hh => by simp at hh, ?_⟩
    exact ih (v + 1) true r (fun _ => h (by simp)) (fun _ => h (by simp))
theorem flat_alt : ∀ (gs : List Gn) (lo : Int), 0 ≤ lo → okG lo gs → ∀ f, altC f (flat gs) := by
  intro gs
  induction gs with
  | nil => intro lo _ _ f; trivial
  | cons g gs ih =>
    intro lo h0 h f
    obtain ⟨h1, h2, h3⟩ := h
    have hge := lastI_gt h2 h1
    have e : flat (g :: gs) = chsFrom g.cr (g.cut + 1) g.puts ++ (finC g.fin ++ flat gs) := by
      show (chsFrom g.cr (g.cut + 1) g.puts ++ finC g.fin) ++ flat gs = _
      rw [List.append_assoc]
    rw [e]
    refine chs_alt _ _ _ _ _ (fun _ => ?_) (fun hh => absurd hh h1)
    rcases h3 with ⟨hf, rfl⟩ | ⟨hf, h3⟩
    · unfold finC; rw [hf]; trivial
    · unfold finC; rw [if_pos (by omega)]
      exact ⟨fun _ => rfl, ih g.fin (by omega) h3 _⟩
end Go.Proofs.Ytnliapdhmjljiaa
