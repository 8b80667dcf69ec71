/- Plain: calls of a key, one behind the other, and the document's answer beside them. Conditions: as each theorem says. -/
import Derived.Test.YtnliapdhmjljiaaGenR
namespace Go.Proofs.Ytnliapdhmjljiaa

/-- A key: its generations, the greatest revision that there ever was. -/
structure Ks where
  gs : List Gn
  last : Int
def newK : Ks := ⟨[], 0⟩
/-- A call: its kind by its rest by 6, its revision. What it leaves, its error, what Compact answers. -/
def putK (s : Ks) (rev : Int) : Ks × Int := if wrongB s.last rev = true then (s, 1) else (⟨putG s.gs rev, rev⟩, 0)
def tombK (s : Ks) (rev : Int) : Ks × Int := if wrongB s.last rev = true then (s, 1) else if openB s.gs = true then (⟨tombG s.gs rev, rev⟩, 0) else (s, 21)
def compK (s : Ks) (rev : Int) : Ks := ⟨compG s.gs rev, s.last⟩
def stepK (s : Ks) (o : Int × Int) : Ks × Int × Bool :=
  if o.1 % 6 = 3 ∨ o.1 % 6 = 4 then ((tombK s o.2).1, (tombK s o.2).2, false)
  else if o.1 % 6 = 5 then (compK s o.2, 0, decide ((compK s o.2).gs ≠ []))
  else ((putK s o.2).1, (putK s o.2).2, false)
def InvK (s : Ks) : Prop := okG 0 s.gs ∧ (s.gs = [] ∨ topG 0 s.gs = s.last) ∧ 0 ≤ s.last ∧ s.last ≤ 1099511627776
theorem inv_new : InvK newK := ⟨trivial, .inl rfl, Int.le_refl _, by decide⟩
theorem inv_top {s : Ks} (h : InvK s) : topG 0 s.gs ≤ s.last := by
  rcases h.2.1 with h1 | h1
  · rw [h1]; exact h.2.2.1
  · omega
theorem wrong_no {last rev : Int} (h : ¬ wrongB last rev = true) : 1 ≤ rev ∧ rev ≤ 1099511627776 ∧ last < rev := by
  unfold wrongB at h
  simp only [Bool.or_eq_true, decide_eq_true_eq, not_or] at h
  omega
theorem inv_put {s : Ks} (h : InvK s) (rev : Int) : InvK (putK s rev).1 := by
  unfold putK
  by_cases hw : wrongB s.last rev = true
  · rw [if_pos hw]; exact h
  · rw [if_neg hw]
    obtain ⟨w1, w2, w3⟩ := wrong_no hw
    have ht := inv_top h
    obtain ⟨k1, k2⟩ := put_ok rev s.gs 0 (Int.le_refl _) h.1 (by omega)
    exact ⟨k1, .inr k2, by simp only; omega, w2⟩
theorem inv_tomb {s : Ks} (h : InvK s) (rev : Int) : InvK (tombK s rev).1 := by
  unfold tombK
  by_cases hw : wrongB s.last rev = true
  · rw [if_pos hw]; exact h
  · rw [if_neg hw]
    by_cases ho : openB s.gs = true
    · rw [if_pos ho]
      obtain ⟨w1, w2, w3⟩ := wrong_no hw
      have ht := inv_top h
      obtain ⟨k1, k2, _⟩ := tomb_ok rev s.gs 0 (Int.le_refl _) h.1 (by omega) ho
      exact ⟨k1, .inr k2, by simp only; omega, w2⟩
    · rw [if_neg ho]; exact h
theorem topG_any {gs : List Gn} {lo : Int} (a b : Int) (h : okG lo gs) (hn : gs ≠ []) : topG a gs = topG b gs := by
  cases gs with
  | nil => exact absurd rfl hn
  | cons g gs =>
    show topG (if g.fin = 0 then lastI a g.puts else g.fin) gs = topG (if g.fin = 0 then lastI b g.puts else g.fin) gs
    rw [lastI_any a b h.1]
theorem comp_top (rev : Int) : ∀ (gs : List Gn) (lo : Int), 0 ≤ lo → okG lo gs → compG gs rev = [] ∨ topG lo (compG gs rev) = topG lo gs := by
  intro gs
  induction gs with
  | nil => intro lo _ _; exact .inl rfl
  | cons g gs ih =>
    intro lo h0 hok
    have hok' := hok
    obtain ⟨h1, h2, h3⟩ := hok
    have hge := lastI_gt h2 h1
    by_cases hg : goneG rev g = true
    · have hg2 : 0 < g.fin ∧ g.fin ≤ rev := by unfold goneG at hg; simpa using hg
      obtain ⟨hf, h3⟩ : lastI lo g.puts < g.fin ∧ okG g.fin gs := by rcases h3 with h3 | h3; exact absurd h3.1 (by omega); exact h3
      have hcomp : compG (g :: gs) rev = compG gs rev := by unfold compG; rw [List.filter_cons, hg]; rfl
      have htop : topG lo (g :: gs) = topG g.fin gs := by show topG (if g.fin = 0 then _ else g.fin) gs = _; rw [if_neg (by omega)]
      have hok2 := (comp_ok rev gs g.fin (by omega) h3).1
      rw [hcomp, htop]
      rcases ih g.fin (by omega) h3 with k | k
      · exact .inl k
      · by_cases hn : compG gs rev = []
        · exact .inl hn
        · right; rw [← k]; exact topG_any lo g.fin hok2 hn
    · have hgf := Bool.eq_false_iff.2 hg
      have hg2 : ¬ (0 < g.fin ∧ g.fin ≤ rev) := by unfold goneG at hg; simpa using hg
      have hcomp : compG (g :: gs) rev = cutG rev g :: gs := by
        have : compG (g :: gs) rev = cutG rev g :: compG gs rev := by unfold compG; rw [List.filter_cons, hgf]; rfl
        rw [this]
        congr 1
        rcases h3 with ⟨_, rfl⟩ | ⟨hf, h3⟩
        · rfl
        · exact comp_above rev gs g.fin (by omega) h3 (by omega)
      obtain ⟨_, _, k3, k4⟩ := cutG_puts rev g lo h1 h2
      right
      rw [hcomp]
      show topG (if (cutG rev g).fin = 0 then lastI lo (cutG rev g).puts else (cutG rev g).fin) gs = topG (if g.fin = 0 then lastI lo g.puts else g.fin) gs
      rw [k3, k4]
theorem inv_comp {s : Ks} (h : InvK s) (rev : Int) : InvK (compK s rev) := by
  refine ⟨(comp_ok rev s.gs 0 (Int.le_refl _) h.1).1, ?_, h.2.2⟩
  rcases comp_top rev s.gs 0 (Int.le_refl _) h.1 with k | k
  · exact .inl k
  · rcases h.2.1 with h1 | h1
    · left; unfold compK; rw [h1]; rfl
    · right; exact k.trans h1
theorem inv_step {s : Ks} (h : InvK s) (o : Int × Int) : InvK (stepK s o).1 := by
  unfold stepK
  split
  · exact inv_tomb h o.2
  · split
    · exact inv_comp h o.2
    · exact inv_put h o.2
def runK (ops : List (Int × Int)) : Ks := ops.foldl (fun s o => (stepK s o).1) newK
theorem inv_run (ops : List (Int × Int)) : InvK (runK ops) := by
  have key : ∀ (l : List (Int × Int)) (s : Ks), InvK s → InvK (l.foldl (fun s o => (stepK s o).1) s) := by
    intro l
    induction l with
    | nil => intro s h; exact h
    | cons o l ih => intro s h; exact ih _ (inv_step h o)
  exact key ops newK inv_new
/-! The document's answer. -/
structure Rk where
  L : List Ch
  last : Int
def putR (r : Rk) (rev : Int) : Rk × Int :=
  if wrongB r.last rev = true then (r, 1) else (⟨r.L ++ [⟨rev, if (atR r.L rev).rev = 0 then rev else (atR r.L rev).cr, (atR r.L rev).ver + 1, false⟩], rev⟩, 0)
def tombR (r : Rk) (rev : Int) : Rk × Int :=
  if wrongB r.last rev = true then (r, 1) else if (atR r.L rev).rev = 0 then (r, 21) else (⟨r.L ++ [⟨rev, 0, 0, true⟩], rev⟩, 0)
def compR (r : Rk) (rev : Int) : Rk := ⟨leftR (atR r.L rev).rev rev r.L, r.last⟩
def refK (s : Ks) : Rk := ⟨flat s.gs, s.last⟩
theorem at_open {s : Ks} (h : InvK s) (rev : Int) (hr : s.last < rev) : atR (flat s.gs) rev = if openB s.gs = true then ⟨s.last, (s.gs.getLastD default).cr, (s.gs.getLastD default).cut + ((s.gs.getLastD default).puts.length : Int), false⟩ else zeroC := by
  by_cases hn : s.gs = []
  · rw [hn]; rfl
  · have ht : topG 0 s.gs = s.last := by rcases h.2.1 with h1 | h1; exact absurd h1 hn; exact h1
    have hnow := at_now rev s.gs 0 zeroC (Int.le_refl _) h.1 (by omega) hn
    unfold atR
    rw [hnow]
    by_cases ho : openB s.gs = true
    · rw [if_pos ho, if_pos ho, ht]; rfl
    · rw [if_neg ho, if_neg ho]; rfl
theorem last_pos {s : Ks} (h : InvK s) (ho : openB s.gs = true) : 0 < s.last := by
  have hn : s.gs ≠ [] := by intro e; rw [e] at ho; simp [openB] at ho
  have ht : topG 0 s.gs = s.last := by rcases h.2.1 with h1 | h1; exact absurd h1 hn; exact h1
  have hok := h.1
  cases hg : s.gs with
  | nil => exact absurd hg hn
  | cons g gs =>
    rw [hg] at ht hok
    obtain ⟨h1, h2, h3⟩ := hok
    have hgt := lastI_gt h2 h1
    rcases h3 with ⟨hf, rfl⟩ | ⟨hf, h3⟩
    · have : topG 0 [g] = lastI 0 g.puts := by show topG (if g.fin = 0 then _ else _) [] = _; rw [if_pos hf]; rfl
      omega
    · have : topG 0 (g :: gs) = topG g.fin gs := by show topG (if g.fin = 0 then _ else g.fin) gs = _; rw [if_neg (by omega)]
      have := topG_ge gs g.fin (by omega) h3
      omega
theorem put_sim {s : Ks} (h : InvK s) (rev : Int) : putR (refK s) rev = (refK (putK s rev).1, (putK s rev).2) := by
  unfold putR putK
  show (if wrongB s.last rev = true then _ else _) = _
  by_cases hw : wrongB s.last rev = true
  · rw [if_pos hw, if_pos hw]
  · rw [if_neg hw, if_neg hw]
    obtain ⟨w1, w2, w3⟩ := wrong_no hw
    have ht := inv_top h
    have hf := put_flat rev s.gs 0 zeroC (Int.le_refl _) h.1 (by omega) (by omega) (.inl rfl) (by
      intro g hg
      have key : ∀ (gs : List Gn) (lo : Int), okG lo gs → ∀ g ∈ gs, 0 < g.puts.length := by
        intro gs
        induction gs with
        | nil => intro lo _ g hg; simp at hg
        | cons x gs ih =>
          intro lo hok g hg
          rcases List.mem_cons.1 hg with rfl | hg
          · exact List.length_pos_iff.2 hok.1
          · rcases hok.2.2 with ⟨_, rfl⟩ | ⟨_, h3⟩
            · simp at hg
            · exact ih x.fin h3 g hg
      exact key s.gs 0 h.1 g hg)
    have ha := at_open h rev w3
    show ((⟨flat s.gs ++ _, rev⟩ : Rk), (0 : Int)) = (⟨flat (putG s.gs rev), rev⟩, 0)
    rw [hf]
    show ((⟨flat s.gs ++ [⟨rev, if (atR (flat s.gs) rev).rev = 0 then rev else (atR (flat s.gs) rev).cr, (atR (flat s.gs) rev).ver + 1, false⟩], rev⟩ : Rk), (0 : Int)) = _
    rw [ha]
    by_cases ho : openB s.gs = true
    · have := last_pos h ho
      rw [if_pos ho, if_pos ho, if_pos ho]
      simp only
      rw [if_neg (by omega)]
    · rw [if_neg ho, if_neg ho, if_neg ho]; rfl
theorem tomb_sim {s : Ks} (h : InvK s) (rev : Int) : tombR (refK s) rev = (refK (tombK s rev).1, (tombK s rev).2) := by
  unfold tombR tombK
  show (if wrongB s.last rev = true then _ else _) = _
  by_cases hw : wrongB s.last rev = true
  · rw [if_pos hw, if_pos hw]
  · rw [if_neg hw, if_neg hw]
    obtain ⟨w1, w2, w3⟩ := wrong_no hw
    have ht := inv_top h
    have ha := at_open h rev w3
    show (if (atR (flat s.gs) rev).rev = 0 then _ else _) = _
    rw [ha]
    by_cases ho : openB s.gs = true
    · have := last_pos h ho
      obtain ⟨_, _, k3⟩ := tomb_ok rev s.gs 0 (Int.le_refl _) h.1 (by omega) ho
      rw [if_pos ho, if_pos ho]
      simp only
      rw [if_neg (by omega)]
      show ((⟨flat s.gs ++ _, rev⟩ : Rk), (0 : Int)) = (⟨flat (tombG s.gs rev), rev⟩, 0)
      rw [k3]
    · rw [if_neg ho, if_neg ho]; rfl
theorem comp_sim {s : Ks} (h : InvK s) (rev : Int) : compR (refK s) rev = refK (compK s rev) := by
  have hf := comp_flat rev s.gs 0 zeroC (Int.le_refl _) h.1 (.inr rfl)
  have e : (atR (flat s.gs) rev).rev = nowR (seenR rev zeroC (flat s.gs)) := by
    unfold atR nowR
    split <;> rfl
  show (⟨leftR (atR (flat s.gs) rev).rev rev (flat s.gs), s.last⟩ : Rk) = ⟨flat (compG s.gs rev), s.last⟩
  rw [hf, e]
theorem flat_nil {gs : List Gn} {lo : Int} (h : okG lo gs) : flat gs = [] ↔ gs = [] := by
  constructor
  · intro e
    cases gs with
    | nil => rfl
    | cons g gs =>
      exfalso
      cases hp : g.puts with
      | nil => exact h.1 hp
      | cons p ps =>
        have : flat (g :: gs) = (chsFrom g.cr (g.cut + 1) g.puts ++ finC g.fin) ++ flat gs := rfl
        rw [this, hp] at e
        simp [chsFrom] at e
  · intro e; rw [e]; rfl
end Go.Proofs.Ytnliapdhmjljiaa
