/- A list of entries in memory, three cells an element, and how one that came in is opened. Conditions: as each theorem says. -/
import Derived.Test.YtkidhbflojlmoaaGreatKit
import Derived.Test.YtkidhbflojlmoaaGreatRows
import Derived.Deep.Slices
import Derived.ChangeSame
namespace Go.Proofs.YtkidhbflojlmoaaGreat
open Go.RowKit

/-- An entry: its number (an epoch, a count) and its body. -/
structure Ent where
  e : Int
  c : Int
  b : List UInt8
deriving DecidableEq, Inhabited
def Ent.ok (x : Ent) : Prop := (Lit.int .i64 x.e).wf = true ∧ (Lit.int .i64 x.c).wf = true ∧ x.b.length ≤ maxLen
/-- The three cells of an entry. -/
def EntCells (w : World) (b off : Nat) (x : Ent) : Prop :=
  w.cell? ⟨b, off, none⟩ = some (.int .i64 x.e) ∧ w.cell? ⟨b, off + 1, none⟩ = some (.int .i64 x.c) ∧ w.cell? ⟨b, off + 2, none⟩ = some (.string (bs x.b))
theorem EntCells.grew {w w' : World} {b off : Nat} {x : Ent} (h : EntCells w b off x) (hb : Below w.heap.size w w') : EntCells w' b off x :=
  ⟨Grew.cell hb h.1, Grew.cell hb h.2.1, Grew.cell hb h.2.2⟩
/-- The slice value v reads as the entries L. -/
def EntsAt (w : World) (v : Value) (L : List Ent) : Prop :=
  ∃ a cap, v = .slice a L.length cap ∧ ∀ i (hi : i < L.length), ∃ b off, a = some ⟨b, off, none⟩ ∧ EntCells w b (off + i * 3) L[i]
theorem EntsAt.grew {w w' : World} {v : Value} {L : List Ent} (h : EntsAt w v L) (hb : Below w.heap.size w w') : EntsAt w' v L := by
  obtain ⟨a, cap, hv, hc⟩ := h
  refine ⟨a, cap, hv, fun i hi => ?_⟩
  obtain ⟨b, off, h1, h2⟩ := hc i hi
  exact ⟨b, off, h1, h2.grew hb⟩
theorem ents_get {w : World} {a : Option Addr} {n cap : Nat} {L : List Ent} (h : EntsAt w (.slice a n cap) L) (i : Nat) (hi : i < L.length) :
    ∃ b off, a = some ⟨b, off, none⟩ ∧ EntCells w b (off + i * 3) L[i] := by
  obtain ⟨a', cap', hv, hc⟩ := h
  simp only [Value.slice.injEq] at hv
  obtain ⟨rfl, _, _⟩ := hv
  exact hc i hi
/-- What is known of a list of entries that came in. -/
def IsEnts (w : World) (v : Value) : Prop := ∃ (L : List Ent) (a : Option Addr) (cap : Nat), v = .slice a L.length cap ∧ L.length ≤ cap ∧ cap ≤ maxLen ∧ EntsAt w v L ∧ ∀ x ∈ L, x.ok

open Go.WideShapes Go.ChangeShapes in
theorem open_ents {P : Program} {t e z : TypeId} {f0 f1 g0 g1 : Field} (ht : P.underlying t = some (.slice e)) (he : P.underlying e = some (.struct #[f0, f1])) (hz : P.underlying f0.type = some (.struct #[g0, g1]))
    (hg0 : P.underlying g0.type = some (.int .i64)) (hg1 : P.underlying g1.type = some (.int .i64)) (hf1 : P.underlying f1.type = some .string)
    (o0 : f0.offset = 0) (o1 : f1.offset = 2) (p0 : g0.offset = 0) (p1 : g1.offset = 1) (c3 : P.cellsOf e = 3) (c2 : P.cellsOf f0.type = 2) (c1 : P.cellsOf f1.type = 1) (d0 : P.cellsOf g0.type = 1) (d1 : P.cellsOf g1.type = 1)
    {H : Type} {enc : TypeId × Value → H} {w : World} {r : Reach} {base : Nat} {v : Value} {d : DataW H} {p : List MemPlace}
    (hv : Value.okWide P w r base t v) (h : DataW.Trod enc P w 0 (fun _ => true) true t v d p) : IsEnts w v := by
  obtain ⟨a0, len, cap, rfl⟩ := okWide_slice ht hv
  obtain ⟨fuel, hf⟩ := h
  rcases Go.Deep.open_slice ht hf with ⟨hcs, _⟩ | ⟨a, len', cap', m, n, D, Pl, hcs, _, hl, hm, hmm, _, hx⟩
  · simp [Value.cells] at hcs
    obtain ⟨rfl, rfl, rfl⟩ := hcs
    exact ⟨[], none, 0, rfl, by simp, by simp, ⟨none, 0, rfl, fun i hi => by simp at hi⟩, by simp⟩
  · simp [Value.cells] at hcs
    obtain ⟨rfl, rfl, rfl⟩ := hcs
    simp only [if_true] at hmm
    subst hmm
    obtain ⟨b, off, spot⟩ := a
    have each : ∀ i, i < len → ∃ x : Ent, x.ok ∧ (i = 0 → spot = none) ∧ EntCells w b (off + i * 3) x := by
      intro i hi
      obtain ⟨cs', h1, h2⟩ := hx i (by omega)
      rw [c3] at h1
      obtain ⟨_, hlen, hcell⟩ := World.cells?_some h1
      obtain ⟨y0, y1, k, _, _, hy0, hy1⟩ := trod_struct2 he h2
      rw [o0, c2] at hy0
      rw [o1, c1] at hy1
      obtain ⟨s, hs, _, hsl⟩ := DataW.trod_string hf1 hy1
      obtain ⟨z0, z1, k2, _, _, hz0, hz1⟩ := trod_struct2 hz hy0
      rw [p0, d0] at hz0
      rw [p1, d1] at hz1
      obtain ⟨n0, hn0, _, hw0⟩ := DataW.trod_int hg0 hz0
      obtain ⟨n1, hn1, _, hw1⟩ := DataW.trod_int hg1 hz1
      match cs', hlen with
      | [u0, u1, u2], _ =>
        simp at hs hn0 hn1
        subst hs hn0 hn1
        have e0 := hcell 0 (by omega)
        have e1 := hcell 1 (by omega)
        have e2 := hcell 2 (by omega)
        rw [Go.Deep.add_add] at e0 e1 e2
        have hsp : i = 0 → spot = none := by
          intro h0
          subst h0
          cases spot with
          | none => rfl
          | some x =>
            simp [World.cell?, Addr.add] at e0
            split at e0 <;> simp at e0
        have ha : ∀ j, (⟨b, off, spot⟩ : Addr).add (i * 3 + j) = ⟨b, off + i * 3 + j, none⟩ := by
          intro j
          by_cases hj : i * 3 + j = 0
          · have hi0 : i = 0 := by omega
            have hj0 : j = 0 := by omega
            rw [hsp hi0, hi0, hj0]; rfl
          · unfold Addr.add; rw [if_neg hj]; simp; omega
        rw [ha] at e0 e1 e2
        exact ⟨⟨n0, n1, s.data.toList⟩, ⟨hw0, hw1, hsl⟩, hsp, by simpa using e0, by simpa using e1, by rw [show bs s.data.toList = s from bs_of s]; simpa using e2⟩
    obtain ⟨q, hq⟩ := Go.Deep.choose_lt each
    have hL : ((List.range len).map q).length = len := by simp
    refine ⟨(List.range len).map q, some ⟨b, off, spot⟩, m, by rw [hL], by rw [hL]; exact hl, hm, ⟨some ⟨b, off, spot⟩, m, by rw [hL], fun i hi => ?_⟩, fun x hx => ?_⟩
    · rw [hL] at hi
      obtain ⟨_, _, hc⟩ := hq i hi
      have hs := (hq 0 (by omega)).2.1 rfl
      refine ⟨b, off, by rw [hs], ?_⟩
      simpa using hc
    · obtain ⟨i, hi, rfl⟩ := List.mem_map.1 hx
      exact (hq i (List.mem_range.1 hi)).1
end Go.Proofs.YtkidhbflojlmoaaGreat
