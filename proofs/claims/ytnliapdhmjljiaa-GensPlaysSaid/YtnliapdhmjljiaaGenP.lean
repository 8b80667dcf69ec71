/- Plain: a key's generations, and the row of changes that they are. Conditions: as each theorem says. -/
import Derived.WalkKit
namespace Go.Proofs.Ytnliapdhmjljiaa

/-- A change: a put with its creation and version, or a tombstone. -/
structure Ch where
  rev : Int
  cr : Int
  ver : Int
  gone : Bool
deriving DecidableEq, Inhabited
def zeroC : Ch := ⟨0, 0, 0, false⟩
/-- A generation: its creation, how many puts were cut off, the puts, the tombstone (0: none). -/
structure Gn where
  cr : Int
  cut : Int
  puts : List Int
  fin : Int
deriving DecidableEq, Inhabited
def chsFrom (cr : Int) : Int → List Int → List Ch
  | _, [] => []
  | v, p :: ps => ⟨p, cr, v, false⟩ :: chsFrom cr (v + 1) ps
def finC (f : Int) : List Ch := if 0 < f then [⟨f, 0, 0, true⟩] else []
def Gn.flat (g : Gn) : List Ch := chsFrom g.cr (g.cut + 1) g.puts ++ finC g.fin
def flat (gs : List Gn) : List Ch := gs.flatMap Gn.flat
/-- Ascending from above a bound. -/
def asc : Int → List Int → Prop
  | _, [] => True
  | lo, p :: ps => lo < p ∧ asc p ps
def lastI (lo : Int) (l : List Int) : Int := l.foldl (fun _ p => p) lo
/-- The generations' order: all changes ascend, all but the last one are closed, none is empty. -/
def okG : Int → List Gn → Prop
  | _, [] => True
  | lo, g :: gs => g.puts ≠ [] ∧ asc lo g.puts ∧ ((g.fin = 0 ∧ gs = []) ∨ (lastI lo g.puts < g.fin ∧ okG g.fin gs))
theorem asc_le {lo lo' : Int} {l : List Int} (h : asc lo l) (hl : lo' ≤ lo) : asc lo' l := by
  cases l with
  | nil => trivial
  | cons p ps => exact ⟨by have := h.1; omega, h.2⟩
theorem lastI_ge : ∀ (l : List Int) (lo : Int), asc lo l → lo ≤ lastI lo l := by
  intro l
  induction l with
  | nil => intro lo _; exact Int.le_refl _
  | cons p ps ih => intro lo h; exact Int.le_trans (Int.le_of_lt h.1) (ih p h.2)
theorem lastI_gt {l : List Int} {lo : Int} (h : asc lo l) (hn : l ≠ []) : lo < lastI lo l := by
  cases l with
  | nil => exact absurd rfl hn
  | cons p ps => exact Int.lt_of_lt_of_le h.1 (lastI_ge ps p h.2)
theorem asc_mem : ∀ (l : List Int) (lo : Int), asc lo l → ∀ p ∈ l, lo < p ∧ p ≤ lastI lo l := by
  intro l
  induction l with
  | nil => intro lo _ p hp; simp at hp
  | cons q qs ih =>
    intro lo h p hp
    have hg := lastI_ge qs q h.2
    rcases List.mem_cons.1 hp with rfl | hp
    · exact ⟨h.1, hg⟩
    · obtain ⟨h1, h2⟩ := ih q h.2 p hp
      exact ⟨by have := h.1; omega, h2⟩
theorem lastI_any {l : List Int} (a b : Int) (h : l ≠ []) : lastI a l = lastI b l := by
  cases l with
  | nil => exact absurd rfl h
  | cons p ps => rfl
/-- How many puts are at a revision or ahead of it. -/
def upTo (l : List Int) (rev : Int) : Nat := (l.takeWhile fun p => decide (p ≤ rev)).length
theorem upTo_le (l : List Int) (rev : Int) : upTo l rev ≤ l.length := by
  unfold upTo; exact (List.takeWhile_sublist _).length_le
theorem upTo_cons (p : Int) (l : List Int) (rev : Int) : upTo (p :: l) rev = if p ≤ rev then upTo l rev + 1 else 0 := by
  unfold upTo
  rw [List.takeWhile_cons]
  by_cases h : p ≤ rev <;> simp [h]
theorem upTo_none {l : List Int} {lo rev : Int} (h : asc lo l) (hr : rev ≤ lo) : upTo l rev = 0 := by
  cases l with
  | nil => rfl
  | cons p ps => rw [upTo_cons, if_neg (by have := h.1; omega)]
/-! What is seen at a revision. -/
/-- The document's answer goes through the changes as long as they are no later. -/
def seenR (rev : Int) (c : Ch) (l : List Ch) : Ch := l.foldl (fun a x => if x.rev ≤ rev then x else a) c
def atR (L : List Ch) (rev : Int) : Ch := if (seenR rev zeroC L).gone = true then zeroC else seenR rev zeroC L
theorem seenR_append (rev : Int) (c : Ch) (a b : List Ch) : seenR rev c (a ++ b) = seenR rev (seenR rev c a) b := by unfold seenR; rw [List.foldl_append]
/-- Ascending changes. -/
def ascC : Int → List Ch → Prop
  | _, [] => True
  | lo, c :: cs => lo < c.rev ∧ ascC c.rev cs
theorem seenR_above : ∀ (l : List Ch) (lo rev : Int) (c : Ch), ascC lo l → rev ≤ lo → seenR rev c l = c := by
  intro l
  induction l with
  | nil => intro lo rev c _ _; rfl
  | cons x l ih =>
    intro lo rev c h hr
    have h1 := h.1
    show seenR rev (if x.rev ≤ rev then x else c) l = c
    rw [if_neg (by omega)]
    exact ih x.rev rev c h.2 (by omega)
theorem chs_append (cr : Int) : ∀ (a b : List Int) (v : Int), chsFrom cr v (a ++ b) = chsFrom cr v a ++ chsFrom cr (v + a.length) b := by
  intro a
  induction a with
  | nil => intro b v; simp [chsFrom]
  | cons p a ih => intro b v; simp only [List.cons_append, chsFrom, ih, List.length_cons]; congr 3; omega
theorem chs_seen (cr rev : Int) : ∀ (l : List Int) (lo v : Int) (c : Ch), asc lo l → seenR rev c (chsFrom cr v l) = if upTo l rev = 0 then c else ⟨l.getD (upTo l rev - 1) 0, cr, v + (upTo l rev : Int) - 1, false⟩ := by
  intro l
  induction l with
  | nil => intro lo v c _; rfl
  | cons p l ih =>
    intro lo v c h
    show seenR rev (if p ≤ rev then ⟨p, cr, v, false⟩ else c) (chsFrom cr (v + 1) l) = _
    rw [upTo_cons]
    by_cases hp : p ≤ rev
    · rw [if_pos hp, if_pos hp, ih p (v + 1) _ h.2, if_neg (show ¬ (upTo l rev + 1 = 0) by omega)]
      by_cases h0 : upTo l rev = 0
      · rw [if_pos h0, h0]; simp
      · rw [if_neg h0]
        obtain ⟨k, hk⟩ : ∃ k, upTo l rev = k + 1 := ⟨upTo l rev - 1, by omega⟩
        rw [hk]
        simp only [Nat.add_sub_cancel, List.getD_cons_succ, Ch.mk.injEq, true_and, and_true]
        omega
    · rw [if_neg hp, if_neg hp, if_pos rfl, ih p (v + 1) c h.2, if_pos (upTo_none h.2 (by omega))]
/-- What a generation shows at a revision at which it has puts. -/
def pickG (g : Gn) (rev : Int) : Ch := if 0 < g.fin ∧ g.fin ≤ rev then ⟨g.fin, 0, 0, true⟩ else ⟨g.puts.getD (upTo g.puts rev - 1) 0, g.cr, g.cut + (upTo g.puts rev : Int), false⟩
theorem gn_seen (g : Gn) (lo rev : Int) (c : Ch) (h : asc lo g.puts) (hf : g.fin = 0 ∨ lastI lo g.puts < g.fin) (hn : g.puts ≠ []) : seenR rev c g.flat = if upTo g.puts rev = 0 then c else pickG g rev := by
  unfold Gn.flat
  rw [seenR_append, chs_seen g.cr rev g.puts lo _ c h]
  unfold finC pickG
  by_cases h0 : upTo g.puts rev = 0
  · rw [if_pos h0, if_pos h0]
    by_cases hp : 0 < g.fin
    · rw [if_pos hp]
      show (if g.fin ≤ rev then _ else c) = c
      rw [if_neg]
      intro hle
      cases hg : g.puts with
      | nil => exact hn hg
      | cons p ps =>
        rw [hg] at h0 h hf
        rw [upTo_cons] at h0
        have hl := lastI_ge ps p h.2
        have : lastI lo (p :: ps) = lastI p ps := rfl
        rw [if_pos (by rcases hf with hf | hf <;> omega)] at h0
        omega
    · rw [if_neg hp]; rfl
  · rw [if_neg h0, if_neg h0]
    by_cases hp : 0 < g.fin
    · rw [if_pos hp]
      show (if g.fin ≤ rev then _ else _) = _
      by_cases hle : g.fin ≤ rev
      · rw [if_pos hle, if_pos ⟨hp, hle⟩]
      · rw [if_neg hle, if_neg (fun hh => hle hh.2)]
        simp only [Ch.mk.injEq, true_and, and_true]
        omega
    · rw [if_neg hp, if_neg (fun hh => hp hh.1)]
      show (⟨_, _, _, _⟩ : Ch) = _
      simp only [Ch.mk.injEq, true_and, and_true]
      omega
/-- What all generations show, from the front on. -/
def seenG (rev : Int) (c : Ch) (gs : List Gn) : Ch := gs.foldl (fun a g => if upTo g.puts rev = 0 then a else pickG g rev) c
theorem flat_seen (rev : Int) : ∀ (gs : List Gn) (lo : Int) (c : Ch), okG lo gs → seenR rev c (flat gs) = seenG rev c gs := by
  intro gs
  induction gs with
  | nil => intro lo c _; rfl
  | cons g gs ih =>
    intro lo c h
    obtain ⟨h1, h2, h3⟩ := h
    show seenR rev c (Gn.flat g ++ flat gs) = _
    rw [seenR_append, gn_seen g lo rev c h2 (by rcases h3 with h3 | h3; exact .inl h3.1; exact .inr h3.1) h1]
    show _ = seenG rev (if upTo g.puts rev = 0 then c else pickG g rev) gs
    rcases h3 with ⟨_, rfl⟩ | ⟨_, h3⟩
    · rfl
    · exact ih g.fin _ h3
/-- The last generation that has puts at a revision is what is seen. -/
theorem seenG_last (rev : Int) (A B : List Gn) (g : Gn) (c : Ch) (hg : upTo g.puts rev ≠ 0) (hB : ∀ x ∈ B, upTo x.puts rev = 0) : seenG rev c (A ++ g :: B) = pickG g rev := by
  unfold seenG
  rw [List.foldl_append, List.foldl_cons, if_neg hg]
  generalize pickG g rev = d
  induction B with
  | nil => rfl
  | cons b B ih => rw [List.foldl_cons, if_pos (hB b (by simp))]; exact ih (fun x hx => hB x (by simp [hx]))
theorem seenG_none (rev : Int) (B : List Gn) (c : Ch) (hB : ∀ x ∈ B, upTo x.puts rev = 0) : seenG rev c B = c := by
  unfold seenG
  induction B with
  | nil => rfl
  | cons b B ih => rw [List.foldl_cons, if_pos (hB b (by simp))]; exact ih (fun x hx => hB x (by simp [hx]))
/-! The order of the changes. -/
theorem chs_asc (cr : Int) : ∀ (l : List Int) (lo v : Int) (r : List Ch), asc lo l → ascC (lastI lo l) r → ascC lo (chsFrom cr v l ++ r) := by
  intro l
  induction l with
  | nil => intro lo v r _ h; exact h
  | cons p l ih => intro lo v r h h2; exact ⟨h.1, ih p (v + 1) r h.2 h2⟩
theorem ascC_le {lo lo' : Int} {l : List Ch} (h : ascC lo l) (hl : lo' ≤ lo) : ascC lo' l := by
  cases l with
  | nil => trivial
  | cons c cs => exact ⟨by have := h.1; omega, h.2⟩
theorem flat_asc : ∀ (gs : List Gn) (lo : Int), 0 ≤ lo → okG lo gs → ascC lo (flat gs) := by
  intro gs
  induction gs with
  | nil => intro lo _ _; trivial
  | cons g gs ih =>
    intro lo h0 h
    obtain ⟨h1, h2, h3⟩ := h
    show ascC lo ((chsFrom g.cr (g.cut + 1) g.puts ++ finC g.fin) ++ flat gs)
    rw [List.append_assoc]
    refine chs_asc _ _ _ _ _ h2 ?_
    have hge := lastI_ge _ _ h2
    rcases h3 with ⟨hf, rfl⟩ | ⟨hf, h3⟩
    · unfold finC; rw [hf]; simp [flat, ascC]
    · unfold finC; rw [if_pos (by omega)]
      exact ⟨hf, ih g.fin (by omega) h3⟩
theorem asc_gt : ∀ (l : List Ch) (lo : Int), ascC lo l → ∀ c ∈ l, lo < c.rev := by
  intro l
  induction l with
  | nil => intro lo _ c hc; simp at hc
  | cons x l ih =>
    intro lo h c hc
    rcases List.mem_cons.1 hc with rfl | hc
    · exact h.1
    · have := ih x.rev h.2 c hc; have := h.1; omega
/-! Put, Tombstone. -/
def wrongB (last rev : Int) : Bool := decide (rev < 1) || (decide (1099511627776 < rev) || decide (rev ≤ last))
/-- The last generation, if it has no tombstone. -/
def openB : List Gn → Bool
  | [] => false
  | [g] => decide (g.fin = 0)
  | _ :: g :: gs => openB (g :: gs)
def putG : List Gn → Int → List Gn
  | [], rev => [⟨rev, 0, [rev], 0⟩]
  | [g], rev => if g.fin = 0 then [{ g with puts := g.puts ++ [rev] }] else [g, ⟨rev, 0, [rev], 0⟩]
  | g :: h :: gs, rev => g :: putG (h :: gs) rev
def tombG : List Gn → Int → List Gn
  | [], _ => []
  | [g], rev => [{ g with fin := rev }]
  | g :: h :: gs, rev => g :: tombG (h :: gs) rev
theorem lastI_append (l : List Int) (p lo : Int) : lastI lo (l ++ [p]) = p := by unfold lastI; rw [List.foldl_append]; rfl
theorem asc_append : ∀ (l : List Int) (lo p : Int), asc lo l → lastI lo l < p → asc lo (l ++ [p]) := by
  intro l
  induction l with
  | nil => intro lo p _ h; exact ⟨h, trivial⟩
  | cons q l ih => intro lo p h h2; exact ⟨h.1, ih q p h.2 h2⟩
/-- The greatest revision of all. -/
def topG : Int → List Gn → Int
  | lo, [] => lo
  | lo, g :: gs => topG (if g.fin = 0 then lastI lo g.puts else g.fin) gs
theorem topG_ge : ∀ (gs : List Gn) (lo : Int), 0 ≤ lo → okG lo gs → lo ≤ topG lo gs := by
  intro gs
  induction gs with
  | nil => intro lo _ _; exact Int.le_refl _
  | cons g gs ih =>
    intro lo h0 h
    obtain ⟨h1, h2, h3⟩ := h
    have hge := lastI_ge _ _ h2
    show lo ≤ topG (if g.fin = 0 then lastI lo g.puts else g.fin) gs
    rcases h3 with ⟨hf, rfl⟩ | ⟨hf, h3⟩
    · rw [if_pos hf]; exact hge
    · rw [if_neg (by omega)]; have := ih g.fin (by omega) h3; omega
/-- A put behind all changes. -/
theorem put_ok (rev : Int) : ∀ (gs : List Gn) (lo : Int), 0 ≤ lo → okG lo gs → topG lo gs < rev → okG lo (putG gs rev) ∧ topG lo (putG gs rev) = rev := by
  intro gs
  induction gs with
  | nil => intro lo h0 _ h; exact ⟨⟨by simp, ⟨h, trivial⟩, .inl ⟨rfl, rfl⟩⟩, rfl⟩
  | cons g gs ih =>
    intro lo h0 hok ht
    obtain ⟨h1, h2, h3⟩ := hok
    have hge := lastI_ge _ _ h2
    cases gs with
    | nil =>
      by_cases hf : g.fin = 0
      · have ht' : lastI lo g.puts < rev := by have : topG lo [g] = lastI lo g.puts := by show topG (if g.fin = 0 then _ else _) [] = _; rw [if_pos hf]; rfl
                                               omega
        simp only [putG, if_pos hf]
        refine ⟨⟨by simp, asc_append _ _ _ h2 ht', .inl ⟨hf, rfl⟩⟩, ?_⟩
        show topG (if g.fin = 0 then lastI lo (g.puts ++ [rev]) else g.fin) [] = rev
        rw [if_pos hf, lastI_append]; rfl
      · have ht' : g.fin < rev := by have : topG lo [g] = g.fin := by show topG (if g.fin = 0 then _ else _) [] = _; rw [if_neg hf]; rfl
                                     omega
        have h4 : lastI lo g.puts < g.fin := by rcases h3 with h3 | h3; exact absurd h3.1 hf; exact h3.1
        simp only [putG, if_neg hf]
        refine ⟨⟨h1, h2, .inr ⟨h4, by simp, ⟨ht', trivial⟩, .inl ⟨rfl, rfl⟩⟩⟩, ?_⟩
        show topG (if g.fin = 0 then _ else g.fin) [(⟨rev, 0, [rev], 0⟩ : Gn)] = rev
        rw [if_neg hf]; rfl
    | cons h gs =>
      have h4 : lastI lo g.puts < g.fin ∧ okG g.fin (h :: gs) := by rcases h3 with h3 | h3; exact absurd h3.2 (by simp); exact h3
      have ht' : topG g.fin (h :: gs) < rev := by
        have : topG lo (g :: h :: gs) = topG g.fin (h :: gs) := by show topG (if g.fin = 0 then _ else g.fin) (h :: gs) = _; rw [if_neg (by omega)]
        omega
      obtain ⟨k1, k2⟩ := ih g.fin (by omega) h4.2 ht'
      refine ⟨⟨h1, h2, .inr ⟨h4.1, k1⟩⟩, ?_⟩
      show topG (if g.fin = 0 then _ else g.fin) (putG (h :: gs) rev) = rev
      rw [if_neg (by omega)]; exact k2
/-- A put is one change more: its creation and version are those of what is seen, gone on with. -/
theorem put_flat (rev : Int) : ∀ (gs : List Gn) (lo : Int) (c : Ch), 0 ≤ lo → okG lo gs → topG lo gs < rev → 0 < rev → (c.rev = 0 ∨ c.gone = true ∨ 0 < c.rev) → (∀ g ∈ gs, 0 < g.puts.length) →
    flat (putG gs rev) = flat gs ++ [⟨rev, if openB gs = true then (gs.getLastD default).cr else rev, if openB gs = true then (gs.getLastD default).cut + ((gs.getLastD default).puts.length : Int) + 1 else 1, false⟩] := by
  intro gs
  induction gs with
  | nil => intro lo c _ _ _ _ _ _; simp [putG, flat, Gn.flat, chsFrom, finC, openB]
  | cons g gs ih =>
    intro lo c h0 hok ht hr hc hl
    obtain ⟨h1, h2, h3⟩ := hok
    have hge := lastI_ge _ _ h2
    cases gs with
    | nil =>
      by_cases hf : g.fin = 0
      · simp only [putG, if_pos hf, openB, hf, decide_true, if_true, List.getLastD_cons, List.getLastD_nil]
        simp only [flat, List.flatMap_cons, List.flatMap_nil, List.append_nil, Gn.flat, hf, finC]
        rw [chs_append]
        simp [chsFrom]
        omega
      · simp only [putG, if_neg hf, openB, decide_eq_false hf]
        simp [flat, Gn.flat, chsFrom, finC]
    | cons h gs =>
      have h4 : lastI lo g.puts < g.fin ∧ okG g.fin (h :: gs) := by rcases h3 with h3 | h3; exact absurd h3.2 (by simp); exact h3
      have ht' : topG g.fin (h :: gs) < rev := by
        have : topG lo (g :: h :: gs) = topG g.fin (h :: gs) := by show topG (if g.fin = 0 then _ else g.fin) (h :: gs) = _; rw [if_neg (by omega)]
        omega
      have k := ih g.fin c (by omega) h4.2 ht' hr hc (fun x hx => hl x (by simp [hx]))
      show Gn.flat g ++ flat (putG (h :: gs) rev) = (Gn.flat g ++ flat (h :: gs)) ++ _
      rw [k, List.append_assoc]
      rfl
end Go.Proofs.Ytnliapdhmjljiaa
