/- What holds between two calls of GensPlays: the key, and the reference's row of changes. Conditions: as each theorem says. -/
import Derived.Test.YtnliapdhmjljiaaGenRf
namespace Go.Proofs.Ytnliapdhmjljiaa
open Go.RowKit

theorem chs_ver (cr : Int) : ∀ (l : List Int) (v : Int), ∀ c ∈ chsFrom cr v l, v ≤ c.ver ∧ c.ver < v + l.length := by
  intro l
  induction l with
  | nil => intro v c hc; simp [chsFrom] at hc
  | cons p l ih =>
    intro v c hc
    rcases List.mem_cons.1 hc with rfl | hc
    · simp only [List.length_cons]; omega
    · have := ih (v + 1) c hc
      simp only [List.length_cons]; omega
theorem flat_ver (n : Nat) : ∀ gs : List Gn, (∀ g ∈ gs, 0 ≤ g.cut ∧ g.cut + (g.puts.length : Int) ≤ n) → ∀ c ∈ flat gs, 0 ≤ c.ver ∧ c.ver ≤ n := by
  intro gs h c hc
  unfold flat at hc
  obtain ⟨g, hg, hc⟩ := List.mem_flatMap.1 hc
  have hgg := h g hg
  rcases List.mem_append.1 hc with hc | hc
  · have := chs_ver g.cr g.puts (g.cut + 1) c hc; omega
  · unfold finC at hc
    split at hc
    · simp at hc; subst hc; simp
    · simp at hc
theorem seenR_mem (rev : Int) : ∀ (L : List Ch) (c : Ch), seenR rev c L = c ∨ seenR rev c L ∈ L := by
  intro L
  induction L with
  | nil => intro c; exact .inl rfl
  | cons x L ih =>
    intro c
    show seenR rev (if x.rev ≤ rev then x else c) L = c ∨ seenR rev (if x.rev ≤ rev then x else c) L ∈ x :: L
    rcases ih (if x.rev ≤ rev then x else c) with h | h
    · rw [h]
      split
      · exact .inr (by simp)
      · exact .inl rfl
    · exact .inr (List.mem_cons_of_mem _ h)
theorem atR_ver {s : Ks} {n : Nat} (hf : FitK s n) (rev : Int) : 0 ≤ (atR (flat s.gs) rev).ver ∧ (atR (flat s.gs) rev).ver ≤ n := by
  unfold atR
  split
  · simp [zeroC]
  · rcases seenR_mem rev (flat s.gs) zeroC with h | h
    · rw [h]; simp [zeroC]
    · exact flat_ver n s.gs hf.2 _ h
theorem flat_len : ∀ gs : List Gn, (flat gs).length ≤ sizeG gs := by
  intro gs
  induction gs with
  | nil => exact Nat.le_refl _
  | cons g gs ih =>
    have e1 : flat (g :: gs) = Gn.flat g ++ flat gs := rfl
    have e2 : sizeG (g :: gs) = (g.puts.length + 1) + sizeG gs := rfl
    have hc : ∀ (l : List Int) (cr v : Int), (chsFrom cr v l).length = l.length := by
      intro l
      induction l with
      | nil => intro cr v; rfl
      | cons p l ih => intro cr v; simp only [chsFrom, List.length_cons, ih]
    have h1 : (Gn.flat g).length ≤ g.puts.length + 1 := by
      unfold Gn.flat finC
      rw [List.length_append, hc]
      split <;> simp
    rw [e1, e2, List.length_append]
    omega
theorem stepK_last (s : Ks) (o : Int × Int) : (stepK s o).1 = (tombK s o.2).1 ∨ (stepK s o).1 = compK s o.2 ∨ (stepK s o).1 = (putK s o.2).1 := by
  unfold stepK
  split
  · exact .inl rfl
  · split
    · exact .inr (.inl rfl)
    · exact .inr (.inr rfl)
theorem comp_any {s : Ks} (h : InvK s) (mark : Int) : decide ((compK s mark).gs ≠ []) = decide (0 < (flat (compK s mark).gs).length) := by
  have hc := inv_comp h mark
  by_cases hn : (compK s mark).gs = []
  · rw [(flat_nil hc.1).2 hn, hn]; rfl
  · have : flat (compK s mark).gs ≠ [] := fun h0 => hn ((flat_nil hc.1).1 h0)
    rw [decide_eq_true hn, decide_eq_true (List.length_pos_iff.2 this)]
/-- Between two steps: the key is s, the reference's is s' (its row is u, its box b6); what a call of the key may change (F) is no part of the reference's. -/
structure Play (base kb b6 : Nat) (s s' : Ks) (n : Nat) (F : Nat → Prop) (u : Value) (w0 W : World) : Prop where
  live : Live F kb s n W
  k6 : BlkAt b6 RkT [u, .int .i64 s'.last] W
  row : GrowR base u (flat s'.gs) W
  n6 : ¬ F b6
  nu : ∀ g, u.ownBlock = some g → ¬ F g
  low : ∀ i, F i → base ≤ i
  lo6 : base ≤ b6
  below : Below base w0 W
  size : base ≤ W.heap.size
section
variable {base kb b6 n : Nat} {s s' : Ks} {F : Nat → Prop} {u : Value} {w0 W : World}
theorem Play.later {W' : World} (h : Play base kb b6 s s' n F u w0 W) (hb : Below W.heap.size W W') : Play base kb b6 s s' n F u w0 W' :=
  ⟨h.live.grew hb, h.k6.grew hb, h.row.below hb, h.n6, h.nu, h.low, h.lo6, h.below.trans (hb.mono h.size), Nat.le_trans h.size hb.size⟩
theorem Play.in_ {W' : World} (h : Play base kb b6 s s' n F u w0 W) (hb : Grew W W') : Play base kb b6 s s' n F u w0 W' := h.later hb
/-- The reference's answer is stored. -/
theorem Play.stored {t : Ks} {v : Value} (h : Play base kb b6 s s' n F u w0 W) (hr : GrowR base v (flat t.gs) W) (hv : ∀ g, v.ownBlock = some g → ¬ F g) :
    Play base kb b6 s t n F v w0 ((W.setCell ⟨b6, 0, none⟩ v).setCell ⟨b6, 1, none⟩ (.int .i64 t.last)) := by
  have hne := ref_other hr h.k6
  have hA : Apart (fun i => i = b6) W ((W.setCell ⟨b6, 0, none⟩ v).setCell ⟨b6, 1, none⟩ (.int .i64 t.last)) :=
    (Apart.set (F := fun i => i = b6) W b6 0 v rfl).trans (Apart.set (F := fun i => i = b6) _ b6 1 _ rfl) (fun i hi => .inl hi)
  have hlo := h.lo6
  refine ⟨h.live.apart hA (fun i hi => by subst hi; exact h.n6), (h.k6.set 0 v).set 1 (.int .i64 t.last), ?_, h.n6, hv, h.low, h.lo6, ?_, Nat.le_trans h.size hA.size⟩
  · exact World.ownsRow.kept (World.ownsRow.kept hr (grown_set W _ 0 v) (Or.inr (fun e => hne _ e rfl))) (grown_set _ _ 1 _) (Or.inr (fun e => hne _ e rfl))
  · exact h.below.trans (hA.below h.size (fun i hi => by subst hi; exact hlo))
/-- A call of the key is done. -/
theorem Play.did {s2 : Ks} {n2 : Nat} {v : Value} {e : Ending} {W' : World} (h : Play base kb b6 s s' n F u w0 W) (k : LiveAfter F kb W v s2 n2 e W') : e = .returned v ∧ Play base kb b6 s2 s' n2 (Foot F W W') u w0 W' := by
  obtain ⟨k1, k2, k3⟩ := k
  have h6 := h.k6.lt
  have hs := h.size
  refine ⟨k1, k2, k3.blk h.k6 h.n6, ?_, ?_, ?_, ?_, h.lo6, h.below.trans (k3.below h.size h.low), Nat.le_trans h.size k3.size⟩
  · refine ownsRow_kept h.row (fun g hg => k3.block g (World.ownsRow.lt h.row g hg).2 (h.nu g hg))
  · rintro (hf | hf)
    · exact h.n6 hf
    · omega
  · intro g hg
    have hl := (World.ownsRow.lt h.row g hg).2
    rintro (hf | hf)
    · exact h.nu g hg hf
    · omega
  · rintro i (hf | hf)
    · exact h.low i hf
    · omega
theorem Play.fresh {v : Value} (h : Play base kb b6 s s' n F u w0 W) (hv : ∀ g, v.ownBlock = some g → v = u ∨ W.heap.size ≤ g) : ∀ g, v.ownBlock = some g → ¬ F g := by
  intro g hg hf
  rcases hv g hg with e | e
  · exact h.nu g (e ▸ hg) hf
  · have := h.live.lt g hf; omega
end
end Go.Proofs.Ytnliapdhmjljiaa
