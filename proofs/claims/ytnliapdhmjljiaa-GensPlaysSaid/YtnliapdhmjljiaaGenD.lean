/- A key's calls, with what holds of every key: the contracts that the laws lean on. Conditions: as each theorem says. -/
import Derived.Test.YtnliapdhmjljiaaGenCe
namespace Go.Proofs.Ytnliapdhmjljiaa
open Go.RowKit

/-- How great a key may be behind n calls. -/
def FitK (s : Ks) (n : Nat) : Prop := sizeG s.gs ≤ 2 * n ∧ ∀ g ∈ s.gs, 0 ≤ g.cut ∧ g.cut + (g.puts.length : Int) ≤ n
theorem fit_more {s : Ks} {n m : Nat} (h : FitK s n) (hm : n ≤ m) : FitK s m := ⟨by have := h.1; omega, fun g hg => by have := h.2 g hg; omega⟩
theorem sizeG_put (rev : Int) : ∀ gs : List Gn, sizeG (putG gs rev) ≤ sizeG gs + 2 := by
  intro gs
  induction gs with
  | nil => exact Nat.le_refl _
  | cons g gs ih =>
    cases gs with
    | nil =>
      unfold putG
      split
      · simp [sizeG]
      · simp [sizeG]
    | cons h gs =>
      have e1 : sizeG (putG (g :: h :: gs) rev) = g.puts.length + 1 + sizeG (putG (h :: gs) rev) := rfl
      have e2 : sizeG (g :: h :: gs) = g.puts.length + 1 + sizeG (h :: gs) := rfl
      omega
theorem fitG_put (rev : Int) (n : Nat) : ∀ gs : List Gn, (∀ g ∈ gs, 0 ≤ g.cut ∧ g.cut + (g.puts.length : Int) ≤ n) → ∀ g ∈ putG gs rev, 0 ≤ g.cut ∧ g.cut + (g.puts.length : Int) ≤ (n + 1 : Nat) := by
  intro gs
  induction gs with
  | nil => intro _ g hg; simp [putG] at hg; subst hg; simp; omega
  | cons g gs ih =>
    intro h
    cases gs with
    | nil =>
      have h0 := h g (by simp)
      unfold putG
      split
      · intro x hx; simp at hx; subst hx; simp; omega
      · intro x hx
        simp at hx
        rcases hx with rfl | rfl
        · omega
        · simp; omega
    | cons k gs =>
      intro x hx
      have e1 : putG (g :: k :: gs) rev = g :: putG (k :: gs) rev := rfl
      rw [e1] at hx
      rcases List.mem_cons.1 hx with rfl | hx
      · have := h x (by simp); omega
      · exact ih (fun y hy => h y (by simp [hy])) x hx
theorem sizeG_tomb (rev : Int) : ∀ gs : List Gn, sizeG (tombG gs rev) = sizeG gs := by
  intro gs
  induction gs with
  | nil => rfl
  | cons g gs ih =>
    cases gs with
    | nil => rfl
    | cons h gs =>
      have e1 : sizeG (tombG (g :: h :: gs) rev) = g.puts.length + 1 + sizeG (tombG (h :: gs) rev) := rfl
      have e2 : sizeG (g :: h :: gs) = g.puts.length + 1 + sizeG (h :: gs) := rfl
      omega
theorem fitG_tomb (rev : Int) (n : Nat) : ∀ gs : List Gn, (∀ g ∈ gs, 0 ≤ g.cut ∧ g.cut + (g.puts.length : Int) ≤ n) → ∀ g ∈ tombG gs rev, 0 ≤ g.cut ∧ g.cut + (g.puts.length : Int) ≤ n := by
  intro gs
  induction gs with
  | nil => intro _ g hg; simp [tombG] at hg
  | cons g gs ih =>
    intro h
    cases gs with
    | nil =>
      intro x hx
      simp [tombG] at hx
      subst hx
      exact h g (by simp)
    | cons k gs =>
      intro x hx
      have e1 : tombG (g :: k :: gs) rev = g :: tombG (k :: gs) rev := rfl
      rw [e1] at hx
      rcases List.mem_cons.1 hx with rfl | hx
      · exact h x (by simp)
      · exact ih (fun y hy => h y (by simp [hy])) x hx
theorem fit_put {s : Ks} {n : Nat} (h : FitK s n) (rev : Int) : FitK (putK s rev).1 (n + 1) := by
  unfold putK
  split
  · exact fit_more h (by omega)
  · exact ⟨by have := sizeG_put rev s.gs; have := h.1; show sizeG (putG s.gs rev) ≤ _; omega, fitG_put rev n s.gs h.2⟩
theorem fit_tomb {s : Ks} {n : Nat} (h : FitK s n) (rev : Int) : FitK (tombK s rev).1 (n + 1) := by
  unfold tombK
  split
  · exact fit_more h (by omega)
  · split
    · exact fit_more (s := ⟨tombG s.gs rev, rev⟩) (n := n) ⟨by rw [show sizeG (tombG s.gs rev) = sizeG s.gs from sizeG_tomb rev s.gs]; exact h.1, fitG_tomb rev n s.gs h.2⟩ (by omega)
    · exact fit_more h (by omega)
theorem cutG_fit (rev : Int) (n : Nat) (g : Gn) (h : 0 ≤ g.cut ∧ g.cut + (g.puts.length : Int) ≤ n) : (cutG rev g).puts.length ≤ g.puts.length ∧ 0 ≤ (cutG rev g).cut ∧ (cutG rev g).cut + ((cutG rev g).puts.length : Int) ≤ n := by
  have hu := upTo_le g.puts rev
  unfold cutG
  split
  · simp only [List.length_drop]; omega
  · exact ⟨Nat.le_refl _, h⟩
theorem sizeG_map (f : Gn → Gn) (hf : ∀ g, (f g).puts.length ≤ g.puts.length) : ∀ gs : List Gn, sizeG (gs.map f) ≤ sizeG gs := by
  intro gs
  induction gs with
  | nil => exact Nat.le_refl _
  | cons g gs ih =>
    have e1 : sizeG ((g :: gs).map f) = (f g).puts.length + 1 + sizeG (gs.map f) := rfl
    have e2 : sizeG (g :: gs) = g.puts.length + 1 + sizeG gs := rfl
    have := hf g
    omega
theorem fit_comp {s : Ks} {n : Nat} (h : FitK s n) (rev : Int) : FitK (compK s rev) n := by
  refine ⟨?_, fun g hg => ?_⟩
  · refine Nat.le_trans (sizeG_map _ (fun g => ?_) _) (Nat.le_trans (sizeG_filter _ _) h.1)
    unfold cutG
    split
    · simp
    · exact Nat.le_refl _
  · obtain ⟨x, hx, rfl⟩ := List.mem_map.1 hg
    exact (cutG_fit rev n x (h.2 x (List.mem_filter.1 hx).1)).2
theorem fit_step {s : Ks} {n : Nat} (h : FitK s n) (o : Int × Int) : FitK (stepK s o).1 (n + 1) := by
  unfold stepK
  split
  · exact fit_tomb h o.2
  · split
    · exact fit_more (fit_comp h o.2) (by omega)
    · exact fit_put h o.2
theorem fit_new : FitK newK 0 := ⟨Nat.le_refl _, fun g hg => by simp [newK] at hg⟩
/-- A key that is there: what it is, what holds of it, how many calls it has had. -/
structure Live (F : Nat → Prop) (kb : Nat) (s : Ks) (n : Nat) (w : World) : Prop where
  key : KeyIn F kb s w
  inv : InvK s
  fit : FitK s n
def LiveAfter (F : Nat → Prop) (kb : Nat) (w : World) (v : Value) (s' : Ks) (n' : Nat) (e : Ending) (w' : World) : Prop := e = .returned v ∧ Live (Foot F w w') kb s' n' w' ∧ Apart F w w'
/-- What At answers, as a value. -/
def chV (c : Ch) : Value := .tuple #[.agg #[.int .i64 c.cr, .int .i64 c.rev, .int .i64 c.ver], .bool (decide (0 < c.rev))]
theorem atIs_eq {gs : List Gn} {rev : Int} {r : Option Ch} (h : okG 0 gs) (hr : AtIs gs rev r) : seenV r = chV (atR (flat gs) rev) := by
  have hf := flat_seen rev gs 0 zeroC h
  rcases hr with ⟨rfl, h1⟩ | ⟨A, g, B, e, h1, h2, hr⟩
  · unfold atR
    rw [hf, seenG_none rev gs zeroC h1]
    rfl
  · have hs := seenG_last rev A B g zeroC h1 h2
    rw [← e, ← hf] at hs
    rcases hr with ⟨rfl, hg⟩ | ⟨rfl, hg⟩
    · unfold atR
      rw [hs]
      unfold pickG goneG at *
      have : 0 < g.fin ∧ g.fin ≤ rev := by simpa using hg
      rw [if_pos this]; rfl
    · unfold atR
      rw [hs]
      unfold pickG goneG at *
      have hn : ¬ (0 < g.fin ∧ g.fin ≤ rev) := by
        intro hh
        rw [decide_eq_true hh.1, decide_eq_true hh.2] at hg
        cases hg
      rw [if_neg hn]
      have hul := upTo_le g.puts rev
      have hpos : 0 < g.puts.getD (upTo g.puts rev - 1) 0 := by
        obtain ⟨lo', hlo, hok, _⟩ := okG_tail A 0 g B (by rw [← e]; exact h)
        have hm : g.puts.getD (upTo g.puts rev - 1) 0 ∈ g.puts := by
          have hlt : upTo g.puts rev - 1 < g.puts.length := by omega
          have : g.puts.getD (upTo g.puts rev - 1) 0 = g.puts[upTo g.puts rev - 1] := by simp [List.getD, hlt]
          rw [this]; exact List.getElem_mem hlt
        have := asc_mem g.puts lo' hok.2.1 _ hm
        omega
      simp only [seenV, chV, Bool.false_eq_true, if_false]
      rw [decide_eq_true hpos]
section
variable {F : Nat → Prop} {kb n : Nat} {s : Ks} {w : World}
theorem Live.grew {w' : World} (h : Live F kb s n w) (hb : Below w.heap.size w w') : Live F kb s n w' := by
  obtain ⟨⟨u, ps, hk⟩, h2, h3⟩ := h
  exact ⟨⟨u, ps, hk.grew hb⟩, h2, h3⟩
theorem Live.apart {G : Nat → Prop} {w' : World} (h : Live F kb s n w) (hb : Apart G w w') (hG : ∀ i, G i → ¬ F i) : Live F kb s n w' := by
  obtain ⟨⟨u, ps, hk⟩, h2, h3⟩ := h
  exact ⟨⟨u, ps, hk.apart hb hG⟩, h2, h3⟩
theorem Live.more {m : Nat} (h : Live F kb s n w) (hm : n ≤ m) : Live F kb s m w := ⟨h.key, h.inv, fit_more h.fit hm⟩
theorem Live.wider {G : Nat → Prop} (h : Live F kb s n w) (hFG : ∀ i, F i → G i) (hG : ∀ i, G i → i < w.heap.size) : Live G kb s n w := by
  obtain ⟨⟨u, ps, hk⟩, h2, h3⟩ := h
  exact ⟨⟨u, ps, hk.wider hFG hG⟩, h2, h3⟩
theorem Live.bound (h : Live F kb s n w) (hn : n ≤ 1000) : sizeG s.gs ≤ 100000 ∧ (∀ g ∈ s.gs, 0 ≤ g.cut ∧ g.cut ≤ 1000000) ∧ s.gs.length + 1 ≤ 1000000 ∧ ∀ g ∈ s.gs, g.puts.length + 1 ≤ 1000000 := by
  have h1 := h.fit.1
  have h2 := sizeG_len s.gs
  exact ⟨by omega, fun g hg => by have := h.fit.2 g hg; omega, by omega, fun g hg => by have := sizeG_puts s.gs g hg; omega⟩
theorem put_live (h : Live F kb s n w) (hn : n ≤ 1000) (rev : Int) : Calls Try.prog 25 #[.pointer (some ⟨kb, 0, none⟩), .int .i64 rev] w (LiveAfter F kb w (.int .i64 (putK s rev).2) (putK s rev).1 (n + 1)) := by
  obtain ⟨b1, b2, b3, b4⟩ := h.bound hn
  obtain ⟨⟨u, ps, hk⟩, hi, hf⟩ := h
  exact (Put_any hk b3 b4 rev).mono fun e w' ⟨h1, h2, h3⟩ => ⟨h1, ⟨h2, inv_put hi rev, fit_put hf rev⟩, h3⟩
theorem tomb_live (h : Live F kb s n w) (hn : n ≤ 1000) (rev : Int) : Calls Try.prog 24 #[.pointer (some ⟨kb, 0, none⟩), .int .i64 rev] w (LiveAfter F kb w (.int .i64 (tombK s rev).2) (tombK s rev).1 (n + 1)) := by
  obtain ⟨b1, b2, b3, b4⟩ := h.bound hn
  obtain ⟨⟨u, ps, hk⟩, hi, hf⟩ := h
  exact (Tombstone_any hk (by omega) rev).mono fun e w' ⟨h1, h2, h3⟩ => ⟨h1, ⟨h2, inv_tomb hi rev, fit_tomb hf rev⟩, h3⟩
theorem foot_self {w' : World} (h : KeyIn F kb s w') : KeyIn (Foot F w w') kb s w' := by
  obtain ⟨u, ps, hk⟩ := h
  exact ⟨u, ps, hk.wider (fun _ hi => .inl hi) (fun i hi => by rcases hi with hi | hi; exact hk.lt i hi; exact hi.2)⟩
def CompAfter (F : Nat → Prop) (kb : Nat) (w : World) (s' : Ks) (n : Nat) (e : Ending) (w' : World) : Prop := e = .returned (.bool (decide (s'.gs ≠ []))) ∧ Live F kb s' n w' ∧ Apart F w w'
theorem comp_live (h : Live F kb s n w) (hn : n ≤ 1000) (rev : Int) : Calls Try.prog 23 #[.pointer (some ⟨kb, 0, none⟩), .int .i64 rev] w (CompAfter F kb w (compK s rev) n) := by
  obtain ⟨b1, b2, b3, b4⟩ := h.bound hn
  obtain ⟨⟨u, ps, hk⟩, hi, hf⟩ := h
  exact (compact_any hk b1 b2 rev).mono fun e w' ⟨h1, h2, h3⟩ => ⟨h1, ⟨h2, inv_comp hi rev, fit_comp hf rev⟩, h3⟩
theorem at_live (h : Live F kb s n w) (hn : n ≤ 1000) (rev : Int) : Calls Try.prog 16 #[.pointer (some ⟨kb, 0, none⟩), .int .i64 rev] w fun e w' => e = .returned (chV (atR (flat s.gs) rev)) ∧ Below w.heap.size w w' := by
  obtain ⟨b1, b2, b3, b4⟩ := h.bound hn
  obtain ⟨⟨u, ps, hk⟩, hi, hf⟩ := h
  exact (at_any hk b1 b2 rev).mono fun e w' ⟨r, h1, h2, h3⟩ => ⟨by rw [h2, atIs_eq hi.1 h1], h3⟩
theorem since_live (h : Live F kb s n w) (hn : n ≤ 1000) (rev : Int) : Calls Try.prog 18 #[.pointer (some ⟨kb, 0, none⟩), .int .i64 rev] w (SinceSaid w (sinceG s.gs rev)) := by
  obtain ⟨b1, b2, b3, b4⟩ := h.bound hn
  obtain ⟨⟨u, ps, hk⟩, hi, hf⟩ := h
  exact since_any hk b1 rev
theorem last_live (h : Live F kb s n w) : Calls Try.prog 15 #[.pointer (some ⟨kb, 0, none⟩)] w fun e w' => e = .returned (.int .i64 s.last) ∧ w' = w := by
  obtain ⟨⟨u, ps, hk⟩, hi, hf⟩ := h
  exact last_any hk
theorem since_small (h : Live F kb s n w) (hn : n ≤ 1000) (rev : Int) : (sinceG s.gs rev).length ≤ 2000 := by
  have h1 := since_len rev s.gs
  have h2 := h.fit.1
  omega
theorem new_live (w : World) : Calls Try.prog 9 #[] w fun e w' => e = .returned (.pointer (some ⟨w.heap.size, 0, none⟩)) ∧ Live (fun b => w.heap.size ≤ b ∧ b < w'.heap.size) w.heap.size newK 0 w' ∧ Below w.heap.size w w' :=
  (new_any w).mono fun e w' ⟨h1, h2, h3⟩ => ⟨h1, ⟨⟨_, _, h2.wider (fun i hi => by subst hi; exact ⟨Nat.le_refl _, h2.lt _ rfl⟩) (fun i hi => hi.2)⟩, inv_new, fit_new⟩, h3⟩
end
end Go.Proofs.Ytnliapdhmjljiaa
