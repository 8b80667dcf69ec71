/- The plain law of what stands from a key on below a node. No program in sight. Conditions: as each theorem says. -/
import Derived.Test.YteoibolompiohaaIdxV
namespace Go.Proofs.Yteoibolompiohaa

section
variable {t : Tr} {d a : Nat} {k : Key}
/-- What is not ahead of a key, below a node. -/
def Tr.sfx (t : Tr) (k : Key) (d a : Nat) : List Pr := (t.cont d a).drop (spotF (t.cont d a) k)
theorem drop_map_same {α β : Type} (l : List α) (n : Nat) (f g : α → β) (h : ∀ x ∈ l.drop n, f x = g x) : (l.map f).drop n = (l.map g).drop n := by
  rw [← List.map_drop, ← List.map_drop]
  exact List.map_congr_left h
theorem wpost_end : ∀ (Ls : List (List Pr)) (ps : List Pr), wpost Ls ps ps.length = [] := by
  intro Ls
  induction Ls with
  | nil => intro ps; cases ps <;> rfl
  | cons L Ls ih =>
    intro ps
    cases ps with
    | nil => rfl
    | cons p ps => simpa [wpost] using ih ps
theorem spotF_zero {l : List Pr} (h : ∀ p ∈ l, kLt k p.1 = true) : spotF l k = 0 := by
  have := spotF_behind [] l k h
  simpa [spotF_nil] using this
theorem wpost_same (ks : List Nat) (ps : List Pr) (hl : ks.length = ps.length + 1) (f g : Nat → List Pr) (i : Nat) (hi : i ≤ ps.length) (h : ∀ x ∈ ks.drop (i + 1), f x = g x) : wpost (ks.map f) ps i = wpost (ks.map g) ps i := by
  rcases Nat.lt_or_ge i ps.length with h1 | h1
  · rw [wpost_at _ _ i h1 (by simpa using hl), wpost_at _ _ i h1 (by simpa using hl), drop_map_same ks (i + 1) f g h]
  · obtain rfl : i = ps.length := by omega
    rw [wpost_end, wpost_end]
theorem kid_whole {x : Nat} (h : ∀ p ∈ t.cont d x, kLt k p.1 = true) : t.sfx k d x = t.cont d x := by
  unfold Tr.sfx
  rw [spotF_zero h, List.drop_zero]
theorem sfx_leaf : t.sfx k 0 a = (t.nd a).ps.drop (spotF (t.nd a).ps k) := rfl
theorem weave_from (ks : List Nat) (ps : List Pr) (f : Nat → List Pr) (i : Nat) (hl : ks.length = ps.length + 1) (hi : i < ps.length) (x : Nat) (hx : x ∈ ks.drop (i + 1)) (p : Pr) (hp : p ∈ f x) : p ∈ weave ((ks.map f).drop (i + 1)) (ps.drop (i + 1)) := by
  refine (weave_mem (by simp; omega)).2 (.inr ⟨f x, ?_, hp⟩)
  rw [← List.map_drop]
  exact List.mem_map_of_mem hx
theorem sfx_has (h : t.ok (d + 1) a) (hs : SortedK (t.cont (d + 1) a)) (hi : hasF (t.nd a).ps k = true) : t.sfx k (d + 1) a = wpost ((t.nd a).ks.map (t.sfx k d)) (t.nd a).ps (spotF (t.nd a).ps k) := by
  rw [Tr.ok] at h
  have hl : ((t.nd a).ks.map fun k => t.cont d k).length = (t.nd a).ps.length + 1 := by simp [h.2.1]
  obtain ⟨hlt, _⟩ := hasF_lt hi
  obtain ⟨A, B, v, e1, e2, e3, e4, e5, e6⟩ := weave_is _ _ k hl hs hi
  have hB : ∀ p ∈ B, kLt k p.1 = true := by
    rw [Tr.cont, e2, SortedK.append, SortedK.cons] at hs
    exact hs.2.1.1
  have e7 : t.sfx k (d + 1) a = (k, v) :: B := by
    unfold Tr.sfx
    rw [Tr.cont, e2, spotF_at _ _ _ _ e3]
    simp
  rw [e7, ← wpost_same (t.nd a).ks (t.nd a).ps h.2.1 (fun k => t.cont d k) (t.sfx k d) _ (by omega) (fun x hx => (kid_whole (fun p hp => hB p ?_)).symm), wpost_at _ _ _ hlt hl, e6]
  · congr 1
    rw [List.getElem?_eq_getElem hlt] at e1
    exact (Option.some.inj e1).symm
  · rw [e6]
    exact weave_from _ _ (fun k => t.cont d k) _ h.2.1 hlt x hx p hp
theorem sfx_not (h : t.ok (d + 1) a) (hs : SortedK (t.cont (d + 1) a)) (hi : hasF (t.nd a).ps k = false) (hsp : spotF (t.nd a).ps k < (t.nd a).ks.length) :
    t.sfx k (d + 1) a = t.sfx k d (t.nd a).ks[spotF (t.nd a).ps k] ++ wpost ((t.nd a).ks.map (t.sfx k d)) (t.nd a).ps (spotF (t.nd a).ps k) := by
  rw [Tr.ok] at h
  have hl : ((t.nd a).ks.map fun k => t.cont d k).length = (t.nd a).ps.length + 1 := by simp [h.2.1]
  have hw := weave_where _ _ k hl hs hi
  have e := weave_split _ _ (spotF (t.nd a).ps k) hl (by simpa using hsp)
  rw [List.getElem_map] at e
  have e2 : t.sfx k (d + 1) a = t.sfx k d (t.nd a).ks[spotF (t.nd a).ps k] ++ wpost ((t.nd a).ks.map fun k => t.cont d k) (t.nd a).ps (spotF (t.nd a).ps k) := by
    unfold Tr.sfx
    rw [Tr.cont, e, spotF_mid _ _ _ _ hw.1 hw.2, drop_mid _ _ _ _ (spotF_le _ _)]
  rw [e2]
  congr 1
  rcases Nat.lt_or_ge (spotF (t.nd a).ps k) (t.nd a).ps.length with h1 | h1
  · refine wpost_same _ _ h.2.1 _ _ _ (by omega) (fun x hx => (kid_whole (fun p hp => hw.2 p ?_)).symm)
    rw [wpost_at _ _ _ h1 hl]
    exact List.mem_cons_of_mem _ (weave_from _ _ (fun k => t.cont d k) _ h.2.1 h1 x hx p hp)
  · have e3 : spotF (t.nd a).ps k = (t.nd a).ps.length := by have := spotF_le (t.nd a).ps k; omega
    rw [e3, wpost_end, wpost_end]
theorem kid_sorted (h : t.ok (d + 1) a) (hs : SortedK (t.cont (d + 1) a)) (i : Nat) (hi : i < (t.nd a).ks.length) : SortedK (t.cont d (t.nd a).ks[i]) := by
  rw [Tr.ok] at h
  have hl : ((t.nd a).ks.map fun k => t.cont d k).length = (t.nd a).ps.length + 1 := by simp [h.2.1]
  have := weave_sorted_sub hl hs i (by simpa using hi)
  simpa using this
end
end Go.Proofs.Yteoibolompiohaa
