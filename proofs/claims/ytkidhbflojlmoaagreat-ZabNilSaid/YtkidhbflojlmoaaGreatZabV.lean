/- A node that is alone, plainly: what Start and Propose make of it. Conditions: as each theorem says. -/
import Derived.Test.YtkidhbflojlmoaaGreatZabU
namespace Go.Proofs.YtkidhbflojlmoaaGreat
open Go.RowKit

/-- Each number is the next one, or the first one of the next epoch. -/
def Steps (L : List Ent) : Prop := ∀ i (h : i + 1 < L.length), L[i + 1].z = (L[i].e, L[i].c + 1) ∨ L[i + 1].z = (L[i].e + 1, 1)
structure Al (n : Nd) (L : List Ent) (K : Nat) : Prop where
  lone : n.lone
  is : n.is = 3
  step : n.step = 3
  ov : n.ov = nilS
  beg : n.beg = (0, 0)
  pv : ∃ b, n.pv = .pointer b
  acc0 : 1 ≤ n.acc
  acc1 : n.acc ≤ (K : Int)
  cur : n.cur = n.acc
  commit : n.commit = lastN n L
  lo1 : 0 ≤ (lastN n L).1
  lo2 : 0 ≤ (lastN n L).2
  hi1 : (lastN n L).1 ≤ n.acc
  hi2 : (lastN n L).2 ≤ (L.length : Int)
  near : L ≠ [] → n.acc ≤ (lastN n L).1 + 1
  max : ∀ x ∈ L, lessZ (lastN n L) x.z = false
  steps : Steps L
  bnd : ∀ x ∈ L, 0 ≤ x.e ∧ 0 ≤ x.c ∧ x.c ≤ (L.length : Int)
theorem Al.top {n : Nd} {L : List Ent} {K : Nat} (h : Al n L K) (x : Ent) (hx : x ∈ L) : x.e ≤ (K : Int) := by
  have h1 := h.max x hx
  have h2 := h.hi1
  have h3 := h.acc1
  rw [Bool.eq_false_iff, Ne, lessZ_iff] at h1
  have : x.z.1 = x.e := rfl
  omega
theorem lastZ_snoc (L : List Ent) (x : Ent) : lastZ (L ++ [x]) = x.z := by
  unfold lastZ
  simp
theorem lastN_snoc (n : Nd) (L : List Ent) (x : Ent) : lastN n (L ++ [x]) = x.z := by
  unfold lastN
  rw [if_neg (by simp), lastZ_snoc]
/-- Start, where the last number is of the node's epoch (or there is none). -/
theorem Al.start {n : Nd} {L : List Ent} {K : Nat} (h : Al n L K) (hn : L ≠ [] → n.acc = (lastN n L).1) (q : Nat) : Al (startN n L q) L (K + 1) where
  lone := ⟨h.lone.nodes, h.lone.me, rfl⟩
  is := rfl
  step := rfl
  ov := h.ov
  beg := h.beg
  pv := ⟨_, rfl⟩
  acc0 := by have := h.acc0; show 1 ≤ n.acc + 1; omega
  acc1 := by have := h.acc1; show n.acc + 1 ≤ _; omega
  cur := rfl
  commit := rfl
  lo1 := h.lo1
  lo2 := h.lo2
  hi1 := by have := h.hi1; show (lastN n L).1 ≤ n.acc + 1; omega
  hi2 := h.hi2
  near := fun hL => by have := hn hL; show n.acc + 1 ≤ (lastN n L).1 + 1; omega
  max := h.max
  steps := h.steps
  bnd := h.bnd
theorem Al.first (q : Nat) : Al (startN nd0 [] q) [] 1 where
  lone := ⟨rfl, rfl, rfl⟩
  is := rfl
  step := rfl
  ov := rfl
  beg := rfl
  pv := ⟨_, rfl⟩
  acc0 := by show (1 : Int) ≤ 0 + 1; omega
  acc1 := by show (0 : Int) + 1 ≤ 1; omega
  cur := rfl
  commit := rfl
  lo1 := Int.le_refl _
  lo2 := Int.le_refl _
  hi1 := by show (0 : Int) ≤ 0 + 1; omega
  hi2 := Int.le_refl _
  near := fun h => absurd rfl h
  max := fun x hx => by cases hx
  steps := fun i h => by simp at h
  bnd := fun x hx => by cases hx
def snocE (L : List Ent) (z : Int × Int) (t : List UInt8) : List Ent := L ++ [⟨z.1, z.2, t⟩]
/-- What is proposed has a number above the last one. -/
theorem next_above {n : Nd} {L : List Ent} {K : Nat} (h : Al n L K) : lessZ (lastN n L) (nextZ n.acc (lastN n L)) = true := by
  have h1 := h.hi1
  unfold nextZ
  rw [lessZ_iff]
  split
  · right; constructor
    · assumption
    · simp only; omega
  · left; simp only; omega
theorem next_steps {n : Nd} {L : List Ent} {K : Nat} (h : Al n L K) (hL : L ≠ []) : nextZ n.acc (lastN n L) = ((lastN n L).1, (lastN n L).2 + 1) ∨ nextZ n.acc (lastN n L) = ((lastN n L).1 + 1, 1) := by
  have h1 := h.hi1
  have h2 := h.near hL
  unfold nextZ
  split
  · left; rename_i e; rw [e]
  · right
    have : n.acc = (lastN n L).1 + 1 := by omega
    rw [this]
theorem Al.propose {n : Nd} {L : List Ent} {K : Nat} (h : Al n L K) (t : List UInt8) (v : Value) (z : Int × Int) (hz : z = nextZ n.acc (lastN n L)) : Al { n with lv := v, commit := z } (snocE L z t) K := by
  have hl : lastN { n with lv := v, commit := z } (snocE L z t) = z := lastN_snoc _ L ⟨z.1, z.2, t⟩
  have ha := next_above h
  rw [← hz] at ha
  have hz1 : z.1 = n.acc := by rw [hz]; unfold nextZ; split <;> rfl
  refine ⟨⟨h.lone.nodes, h.lone.me, h.lone.peers⟩, h.is, h.step, h.ov, h.beg, h.pv, h.acc0, h.acc1, h.cur, hl.symm, ?_, ?_, ?_, ?_, ?_, ?_, ?_, ?_⟩
  · rw [hl, hz1]; have := h.acc0; omega
  · rw [hl, hz]; unfold nextZ; have := h.lo2; split <;> simp only <;> omega
  · rw [hl, hz1]; exact Int.le_refl _
  · have hz2 : z.2 ≤ (L.length : Int) + 1 := by
      have h2 := h.hi2
      rw [hz]
      unfold nextZ
      split <;> simp only <;> omega
    have hlen : (snocE L z t).length = L.length + 1 := by simp [snocE]
    rw [hl, hlen]
    omega
  · intro _; rw [hl, hz1]; show n.acc ≤ n.acc + 1; omega
  · intro x hx
    rw [hl]
    rcases List.mem_append.1 hx with hx | hx
    · have hm := h.max x hx
      rw [Bool.eq_false_iff] at hm ⊢
      intro hk
      exact hm (lessZ_trans ha hk)
    · rw [List.mem_singleton.1 hx]
      exact lessZ_irrefl _
  · intro i hi
    have hlen : (snocE L z t).length = L.length + 1 := by simp [snocE]
    by_cases hil : i + 1 < L.length
    · have e1 : (snocE L z t)[i + 1] = L[i + 1] := List.getElem_append_left hil
      have e0 : (snocE L z t)[i] = L[i] := List.getElem_append_left (by omega)
      rw [e1, e0]
      exact h.steps i hil
    · have hie : i + 1 = L.length := by omega
      have hL : L ≠ [] := by intro e; rw [e] at hie; simp at hie
      have e1 : (snocE L z t)[i + 1] = ⟨z.1, z.2, t⟩ := by simp [snocE, hie]
      have e0 : (snocE L z t)[i] = L[i] := List.getElem_append_left (by omega)
      have hlast : lastN n L = L[i].z := by
        unfold lastN
        rw [if_neg hL]
        unfold lastZ
        rw [List.getLast?_eq_getElem?]
        have : L.length - 1 = i := by omega
        rw [this, List.getElem?_eq_getElem (by omega)]
      rw [e1, e0]
      have := next_steps h hL
      rw [← hz, hlast] at this
      exact this
  · have hlen : (snocE L z t).length = L.length + 1 := by simp [snocE]
    have hz2 : 0 ≤ z.2 ∧ z.2 ≤ (L.length : Int) + 1 := by
      have h2 := h.hi2
      have h3 := h.lo2
      rw [hz]
      unfold nextZ
      split <;> simp only <;> omega
    intro x hx
    rw [hlen]
    rcases List.mem_append.1 hx with hx | hx
    · have := h.bnd x hx
      omega
    · rw [List.mem_singleton.1 hx]
      have := h.acc0
      simp only
      omega
theorem Al.last_acc {n : Nd} {L : List Ent} (v : Value) (t : List UInt8) (z : Int × Int) (hz : z = nextZ n.acc (lastN n L)) : ({ n with lv := v, commit := z } : Nd).acc = (lastN { n with lv := v, commit := z } (snocE L z t)).1 := by
  rw [show lastN { n with lv := v, commit := z } (snocE L z t) = z from lastN_snoc _ L ⟨z.1, z.2, t⟩, hz]
  unfold nextZ
  split <;> rfl
end Go.Proofs.YtkidhbflojlmoaaGreat
