/- A slice of rows of cells that came in: how it is opened, whatever a row is. Conditions: as each theorem says. -/
import Derived.Test.YtkidhbflojlmoaaKit
import Derived.Test.YtkidhbflojlmoaaRows
import Derived.Deep.Slices
import Derived.ChangeSame
namespace Go.Proofs.Ytkidhbflojlmoaa
open Go.RowKit

/-- The slice value v reads as the rows L, k cells a row. -/
def RowsAt {α : Type} (k : Nat) (enc : α → List Value) (w : World) (v : Value) (L : List α) : Prop :=
  ∃ a cap, v = .slice a L.length cap ∧ ∀ i (hi : i < L.length), ∃ b off, a = some ⟨b, off, none⟩ ∧ w.rangeAt b (off + i * k) (enc L[i])
theorem range_grew {w w' : World} {b o : Nat} {cs : List Value} (h : w.rangeAt b o cs) (hb : Below w.heap.size w w') : w'.rangeAt b o cs := fun j v hj => Grew.cell hb (h j v hj)
section
variable {α : Type} {k : Nat} {enc : α → List Value} {w w' : World} {v : Value} {L : List α}
theorem RowsAt.grew (h : RowsAt k enc w v L) (hb : Below w.heap.size w w') : RowsAt k enc w' v L := by
  obtain ⟨a, cap, hv, hc⟩ := h
  refine ⟨a, cap, hv, fun i hi => ?_⟩
  obtain ⟨b, off, h1, h2⟩ := hc i hi
  exact ⟨b, off, h1, range_grew h2 hb⟩
theorem RowsAt.get {a : Option Addr} {n cap : Nat} (h : RowsAt k enc w (.slice a n cap) L) (i : Nat) (hi : i < L.length) : ∃ b off, a = some ⟨b, off, none⟩ ∧ w.rangeAt b (off + i * k) (enc L[i]) := by
  obtain ⟨a', cap', hv, hc⟩ := h
  simp only [Value.slice.injEq] at hv
  obtain ⟨rfl, _, _⟩ := hv
  exact hc i hi
theorem RowsAt.form (h : RowsAt k enc w v L) : ∃ a cap, v = .slice a L.length cap := by
  obtain ⟨a, cap, hv, _⟩ := h
  exact ⟨a, cap, hv⟩
end
/-- What is known of rows that came in. -/
def IsRows {α : Type} (k : Nat) (enc : α → List Value) (ok : World → α → Prop) (w : World) (v : Value) : Prop :=
  ∃ (L : List α) (a : Option Addr) (cap : Nat), v = .slice a L.length cap ∧ L.length ≤ cap ∧ cap ≤ maxLen ∧ RowsAt k enc w v L ∧ ∀ x ∈ L, ok w x
open Go.WideShapes Go.ChangeShapes in
/-- A slice's reading gives its rows: 'Rel': what an element's reading gives. -/
theorem rows_of_trod {P : Program} {t e : TypeId} (ht : P.underlying t = some (.slice e)) {α : Type} {k : Nat} {en : α → List Value} {ok : World → α → Prop} (hk : P.cellsOf e = k) (hk0 : 0 < k)
    {H : Type} {enc : TypeId × Value → H} {w : World}
    (hel : ∀ fuel cs x, DataW.trod enc P w 0 (fun _ => true) true fuel e cs = some x → ∃ y : α, cs = en y ∧ ok w y) (hlen : ∀ y, (en y).length = k)
    {a0 : Option Addr} {len cap : Nat} {fuel : Nat} {x : DataW H × List MemPlace} (hf : DataW.trod enc P w 0 (fun _ => true) true fuel t [.slice a0 len cap] = some x) :
    ∃ (L : List α), L.length = len ∧ len ≤ cap ∧ cap ≤ maxLen ∧ RowsAt k en w (.slice a0 len cap) L ∧ ∀ y ∈ L, ok w y := by
  rcases Go.Deep.open_slice ht hf with ⟨hcs, _⟩ | ⟨a, len', cap', m, n, D, Pl, hcs, _, hl, hm, hmm, _, hx⟩
  · simp only [List.cons.injEq, Value.slice.injEq, and_true] at hcs
    obtain ⟨rfl, rfl, rfl⟩ := hcs
    exact ⟨[], rfl, by simp, by simp, ⟨none, 0, rfl, fun i hi => by simp at hi⟩, by simp⟩
  · simp only [List.cons.injEq, Value.slice.injEq, and_true] at hcs
    obtain ⟨rfl, rfl, rfl⟩ := hcs
    simp only [if_true] at hmm
    subst hmm
    obtain ⟨b, off, spot⟩ := a
    have each : ∀ i, i < len → ∃ y : α, ok w y ∧ (i = 0 → spot = none) ∧ w.rangeAt b (off + i * k) (en y) := by
      intro i hi
      obtain ⟨cs', h1, h2⟩ := hx i (by omega)
      rw [hk] at h1
      obtain ⟨_, hlen', hcell⟩ := World.cells?_some h1
      obtain ⟨y, rfl, hy⟩ := hel _ _ _ h2
      have e0 := hcell 0 (by omega)
      rw [Go.Deep.add_add] at e0
      have hsp : i = 0 → spot = none := by
        intro h0
        subst h0
        cases spot with
        | none => rfl
        | some x =>
          rw [List.getElem?_eq_getElem (by rw [hlen]; exact hk0)] at e0
          simp [World.cell?, Addr.add] at e0
          split at e0 <;> simp at e0
      have ha : ∀ j, (⟨b, off, spot⟩ : Addr).add (i * k + j) = ⟨b, off + i * k + j, none⟩ := by
        intro j
        by_cases hj : i * k + j = 0
        · have hik : i * k = 0 := by omega
          have hj0 : j = 0 := by omega
          have hi0 : i = 0 := by
            rcases Nat.mul_eq_zero.1 hik with h | h
            · exact h
            · omega
          rw [hsp hi0, hi0, hj0]; simp [Addr.add]
        · unfold Addr.add; rw [if_neg hj]; simp; omega
      refine ⟨y, hy, hsp, fun j v hj => ?_⟩
      have hlt : j < k := by rw [← hlen y]; exact (List.getElem?_eq_some_iff.1 hj).1
      have := hcell j hlt
      rw [Go.Deep.add_add, ha] at this
      rw [this]
      exact hj
    by_cases h00 : len = 0
    · exact ⟨[], h00.symm, hl, hm, ⟨_, _, by rw [h00]; rfl, fun i hi => by simp at hi⟩, by simp⟩
    obtain ⟨y0, _⟩ := each 0 (by omega)
    haveI : Inhabited α := ⟨y0⟩
    obtain ⟨q, hq⟩ := Go.Deep.choose_lt each
    have hL : ((List.range len).map q).length = len := by simp
    refine ⟨(List.range len).map q, hL, hl, hm, ⟨some ⟨b, off, spot⟩, _, by rw [hL], fun i hi => ?_⟩, fun y hy => ?_⟩
    · rw [hL] at hi
      obtain ⟨_, _, hc⟩ := hq i hi
      have hs := (hq 0 (by omega)).2.1 rfl
      refine ⟨b, off, by rw [hs], ?_⟩
      simpa using hc
    · obtain ⟨i, hi, rfl⟩ := List.mem_map.1 hy
      exact (hq i (List.mem_range.1 hi)).1
open Go.WideShapes Go.ChangeShapes in
theorem open_rows {P : Program} {t e : TypeId} (ht : P.underlying t = some (.slice e)) {α : Type} {k : Nat} {en : α → List Value} {ok : World → α → Prop} (hk : P.cellsOf e = k) (hk0 : 0 < k)
    {H : Type} {enc : TypeId × Value → H} {w : World} {r : Reach} {base : Nat} {v : Value} {d : DataW H} {p : List MemPlace}
    (hel : ∀ fuel cs x, DataW.trod enc P w 0 (fun _ => true) true fuel e cs = some x → ∃ y : α, cs = en y ∧ ok w y) (hlen : ∀ y, (en y).length = k)
    (hv : Value.okWide P w r base t v) (h : DataW.Trod enc P w 0 (fun _ => true) true t v d p) : IsRows k en ok w v := by
  obtain ⟨a0, len, cap, rfl⟩ := okWide_slice ht hv
  obtain ⟨fuel, hf⟩ := h
  obtain ⟨L, hL, h1, h2, h3, h4⟩ := rows_of_trod (w := w) ht hk hk0 hel hlen (by simpa [Value.cells] using hf)
  exact ⟨L, a0, cap, by rw [hL], by rw [hL]; exact h1, h2, h3, h4⟩
end Go.Proofs.Ytkidhbflojlmoaa
