/- A row that a call makes for itself and appends to, its elements of any shape. General: no function of the program in sight. Conditions: as each theorem says. -/
import Derived.Test.YteoibolompiohaaOpen
import Derived.Deep.DeepMust
import Derived.Deep.Onto
import Derived.Test.YteoibolompiohaaSets
namespace Go.Proofs.Yteoibolompiohaa
open Go.RowKit

section
variable {α : Type} {T : TypeId} {k : Nat} {enc : α → List Value} {base : Nat} {v : Value} {L : List α} {w w' : World}
def rowOf (enc : α → List Value) (L : List α) : List Value := L.flatMap enc
theorem rowOf_append (a b : List α) : rowOf enc (a ++ b) = rowOf enc a ++ rowOf enc b := by unfold rowOf; rw [List.flatMap_append]
theorem rowOf_one (c : α) : rowOf enc [c] = enc c := by simp [rowOf]
theorem rowOf_length (hlen : ∀ x, (enc x).length = k) (L : List α) : (rowOf enc L).length = L.length * k := by
  induction L with
  | nil => simp [rowOf]
  | cons a L ih => unfold rowOf at *; rw [List.flatMap_cons, List.length_append, ih, hlen, List.length_cons, Nat.succ_mul]; omega
theorem rowOf_get (hlen : ∀ x, (enc x).length = k) : ∀ (L : List α) (i : Nat) (hi : i < L.length) (j : Nat), j < k → (rowOf enc L)[i * k + j]? = (enc L[i])[j]? := by
  intro L
  induction L with
  | nil => intro i hi; simp at hi
  | cons x L ih =>
    intro i hi j hj
    unfold rowOf at *
    rw [List.flatMap_cons]
    cases i with
    | zero => rw [List.getElem?_append_left (by rw [hlen]; omega)]; simp
    | succ i =>
      rw [List.getElem?_append_right (by rw [hlen, Nat.succ_mul]; omega)]
      simp only [List.getElem_cons_succ]
      rw [show (i + 1) * k + j - (enc x).length = i * k + j by rw [hlen, Nat.succ_mul]; omega]
      exact ih i (by simpa using hi) j hj
/-- The slice v is a row of the call's own, made since 'base', of the elements L. -/
def Grow (T : TypeId) (k : Nat) (enc : α → List Value) (base : Nat) (v : Value) (L : List α) (w : World) : Prop := w.ownsRow base T k v L.length (rowOf enc L)
theorem Grow.nil (w : World) : Grow T k enc base (.slice none 0 0) [] w := World.ownsRow_nil _ _ _ _
theorem Grow.below (h : Grow T k enc base v L w) (hb : Below w.heap.size w w') : Grow T k enc base v L w' := own_below h hb
theorem Grow.mono {base' : Nat} (h : Grow T k enc base v L w) (hb : base' ≤ base) : Grow T k enc base' v L w := World.ownsRow.mono h hb
theorem Grow.drew (h : Grow T k enc base v L w) : Grow T k enc base v L w.drew := h
theorem Grow.slice (h : Grow T k enc base v L w) : ∃ a c, v = .slice a L.length c := by
  rcases h.2 with ⟨rfl, h0⟩ | ⟨g, cap, cur, rfl, _⟩
  · exact ⟨none, 0, by rw [h0]⟩
  · exact ⟨_, _, rfl⟩
theorem Grow.form (h : Grow T k enc base v L w) (hn : 0 < L.length) : ∃ g c, v = .slice (some ⟨g, 0, none⟩) L.length c ∧ base ≤ g := by
  rcases h.2 with ⟨rfl, h0⟩ | ⟨g, cap, cur, rfl, hg, _⟩
  · omega
  · exact ⟨_, _, rfl, hg⟩
theorem Grow.rows (h : Grow T k enc base v L w) (hlen : ∀ x, (enc x).length = k) : RowsAt k enc w v L := by
  rcases h.2 with ⟨rfl, h0⟩ | ⟨g, cap, cur, rfl, hg, hh, hn', hm, hs, hx⟩
  · exact ⟨none, 0, by rw [h0], fun i hi => by omega⟩
  · refine ⟨_, cap, rfl, fun i hi => ⟨g, 0, rfl, fun j u hj => ?_⟩⟩
    have hjk : j < k := by rw [← hlen L[i]]; exact (List.getElem?_eq_some_iff.1 hj).1
    have hlt : i * k + j < L.length * k := by
      have : (i + 1) * k ≤ L.length * k := Nat.mul_le_mul_right _ hi
      rw [Nat.succ_mul] at this; omega
    rw [Nat.zero_add, Lib.cell_of_heap hh, ← hj, ← rowOf_get hlen L i hi j hjk, ← hx, List.getElem?_take, if_pos hlt, Array.getElem?_toList]
theorem Grow.cells (h : Grow T k enc base v L w) (hlen : ∀ x, (enc x).length = k) {g c : Nat} (hv : v = .slice (some ⟨g, 0, none⟩) L.length c) (i : Nat) (hi : i < L.length) : w.rangeAt g (i * k) (enc L[i]) := by
  obtain ⟨a, c', hv', hr⟩ := h.rows hlen
  rw [hv'] at hv
  simp only [Value.slice.injEq] at hv
  obtain ⟨rfl, _, _⟩ := hv
  obtain ⟨b, off, hbo, hrr⟩ := hr i hi
  simp only [Option.some.injEq, Addr.mk.injEq, and_true] at hbo
  obtain ⟨rfl, rfl⟩ := hbo
  simpa using hrr
theorem Grow.thaw (h : Grow T k enc base v L w) {g c : Nat} (hv : v = .slice (some ⟨g, 0, none⟩) L.length c) (o : Nat) : w.frozen? ⟨g, o, none⟩ = false := by
  rcases h.2 with ⟨rfl, h0⟩ | ⟨g', cap, cur, rfl, hg, hh, _⟩
  · cases hv
  · simp only [Value.slice.injEq, Option.some.injEq, Addr.mk.injEq, and_true] at hv
    obtain ⟨rfl, _⟩ := hv
    exact Lib.frozen_of_heap hh _
theorem Grow.past (h : Grow T k enc base v L w) {g : Nat} (hg : g < base) (i : Nat) (x : Value) : Grow T k enc base v L (w.setCell ⟨g, i, none⟩ x) := World.ownsRow.kept h (grown_set w g i x) (Or.inr (fun e => by have := own_base h g e; omega))
theorem below_set {w0 : World} (h : Below w0.heap.size w0 w) {g : Nat} (hg : w0.heap.size ≤ g) (i : Nat) (x : Value) : Below w0.heap.size w0 (w.setCell ⟨g, i, none⟩ x) := h.grown (grown_set w g i x) h.size (by intro k hk; simp only [Option.some.injEq] at hk; omega)
theorem Grow.blk (h : Grow T k enc base v L w) (hg : w.grownBy w' v.ownBlock) {g : Nat} {T' : TypeId} {cs : List Value} (hb : BlkAt g T' cs w) (hlt : g < base) : BlkAt g T' cs w' := hb.grown hg (fun e => by have := own_base h g e.symm; omega)
theorem Grow.since {w0 : World} (h : Grow T k enc base v L w) (hg : w.grownBy w' v.ownBlock) (hB : Below w0.heap.size w0 w) (hb : w0.heap.size ≤ base) : Below w0.heap.size w0 w' := hB.grown hg hB.size (fun k hk => by have := own_base h k hk; omega)
theorem Grow.cast {L' : List α} (h : Grow T k enc base v L w) (e : L = L') : Grow T k enc base v L' w := e ▸ h
/-- Behind an append: what is older than the row, and what is of another kind. -/
theorem Grow.kept {b : Nat} {c : Array Value} {t : TypeId} {fr : Nat × Nat} (h : Grow T k enc base v L w) (hg : w.grownBy w' v.ownBlock) (hb : w.heap[b]? = some (.cells c t fr)) (ht : t ≠ T) : w'.heap[b]? = some (.cells c t fr) := kept_other hg h hb ht
theorem Grow.old (h : Grow T k enc base v L w) (hg : w.grownBy w' v.ownBlock) (hb : base ≤ w.heap.size) : Below base w w' :=
  ⟨hg.os, hg.tape, hg.output, hg.size, fun i hi => hg.block i (Nat.lt_of_lt_of_le hi hb) (fun e => by have := own_base h i e.symm; omega)⟩
theorem Grow.apart {v2 : Value} {T2 : TypeId} {k2 : Nat} {β : Type} {enc2 : β → List Value} {L2 : List β} {base2 : Nat} (h : Grow T k enc base v L w) (hg : w.grownBy w' v.ownBlock) (h2 : Grow T2 k2 enc2 base2 v2 L2 w) (ht : T2 ≠ T) : Grow T2 k2 enc2 base2 v2 L2 w' := by
  rcases h2.2 with h3 | ⟨g, cap, cur, hv, hg2, hh, r⟩
  · exact ⟨h2.1, .inl h3⟩
  · exact ⟨h2.1, .inr ⟨g, cap, cur, hv, hg2, kept_other hg h hh ht, r⟩⟩
/-- append of one element, at the operation: 'x' is the argument's new block of one element. -/
theorem wpList_append_grow {P : Program} {ops : Array Oper} {rest : List Oper} {o : Oper} {a : Act} {w1 : World} {Q : Exit → Act → World → Prop} (hgd : o.guard = none) (s x : Operand) (ty : TypeId)
    (ho : o.op = .call { callee := .builtin .append, args := #[s, x], argTypes := #[ty, ty] }) (hty : P.underlying ty = some (.slice T)) (z : Value) (bytes : Nat) (hinfo : (P.info? T).map (fun i => (i.zero, i.size, i.bytes)) = some (some z, k, bytes))
    (hzk : z.cells.size = k) (hk0 : 0 < k) (hs : a.eval s = v) (h : Grow T k enc base v L w1) (hbase : base ≤ w1.heap.size) (c : α) (cs : Array Value) (hcs : cs = (enc c).toArray) (hlen : (enc c).length = k) (hone : ∀ u ∈ enc c, u.oneCell' = true)
    (hx : a.eval x = .slice (some ⟨w1.heap.size, 0, none⟩) 1 1) (hl : L.length + 1 ≤ maxLen) (hbytes : (L.length + 1) * bytes ≤ 140737488355328)
    (hK : ∀ v' w', Grow T k enc base v' (L ++ [c]) w' → (w1.alloc (.cells cs T)).grownBy w' v.ownBlock → wpList P ops Q rest (a.put o.dst v') w') :
    wpList P ops Q (o :: rest) a (w1.alloc (.cells cs T)) := by
  subst hcs
  obtain ⟨i0, hi, hz0, hz1, hz2⟩ := info_parts hinfo
  refine wpList_append_own _ hgd s x ty ho base T i0 z k bytes hty hi hz0 hz1 hz2 hzk hk0 v _ _ hs (World.ownsRow.alloc h _) ⟨w1.heap.size, 0, none⟩ 1 1 (enc c) hx (by rw [hlen, Nat.one_mul])
    (fun j u hu => new_cells w1 (enc c) T j u hu) hone hl hbytes (by simp; omega) ?_
  intro v' w' hown hg _
  refine hK v' w' ?_ hg
  unfold Grow
  rw [rowOf_append, rowOf_one, List.length_append]
  exact hown
/-- The same as one step of a region that draws its order. -/
theorem step_append_grow {P : Program} {ops : Array Oper} {o : Oper} {a : Act} {w1 : World} {K : Act → World → Prop} {Q : Exit → Act → World → Prop} {E : Prop} (hgd : o.guard = none) (s x : Operand) (ty : TypeId)
    (ho : o.op = .call { callee := .builtin .append, args := #[s, x], argTypes := #[ty, ty] }) (hty : P.underlying ty = some (.slice T)) (z : Value) (bytes : Nat) (hinfo : (P.info? T).map (fun i => (i.zero, i.size, i.bytes)) = some (some z, k, bytes))
    (hzk : z.cells.size = k) (hk0 : 0 < k) (hs : a.eval s = v) (h : Grow T k enc base v L w1) (hbase : base ≤ w1.heap.size) (c : α) (hlen : (enc c).length = k) (hone : ∀ u ∈ enc c, u.oneCell' = true)
    (b : Nat) (hx : a.eval x = .slice (some ⟨b, 0, none⟩) 1 1) (hb : w1.rangeAt b 0 (enc c)) (hl : L.length + 1 ≤ maxLen) (hbytes : (L.length + 1) * bytes ≤ 140737488355328)
    (hK : ∀ v' w', Grow T k enc base v' (L ++ [c]) w' → w1.grownBy w' v.ownBlock → K (a.put o.dst v') w') :
    if Region.wanted o (yielded ops a.tmps) = true then Oper.wp P o a w1 K Q else E := by
  obtain ⟨i0, hi, hz0, hz1, hz2⟩ := info_parts hinfo
  refine step_append_own hgd s x ty ho base T i0 z k bytes hty hi hz0 hz1 hz2 hzk hk0 v _ _ hs h ⟨b, 0, none⟩ 1 1 (enc c) hx (by rw [hlen, Nat.one_mul])
    (fun j u hu => ?_) hone hl hbytes hbase ?_
  · have ha : (⟨b, 0, none⟩ : Addr).add j = ⟨b, j, none⟩ := by unfold Addr.add; split <;> simp_all
    have := hb j u hu
    rw [Nat.zero_add] at this
    rw [ha]; exact this
  · intro v' w' hown hg _
    refine hK v' w' ?_ hg
    unfold Grow
    rw [rowOf_append, rowOf_one, List.length_append]
    exact hown
/-- append of all elements of another slice, at the operation. -/
theorem wpList_append_all {P : Program} {ops : Array Oper} {rest : List Oper} {o : Oper} {a : Act} {w1 : World} {Q : Exit → Act → World → Prop} (hgd : o.guard = none) (s x : Operand) (ty : TypeId)
    (ho : o.op = .call { callee := .builtin .append, args := #[s, x], argTypes := #[ty, ty] }) (hty : P.underlying ty = some (.slice T)) (z : Value) (bytes : Nat) (hinfo : (P.info? T).map (fun i => (i.zero, i.size, i.bytes)) = some (some z, k, bytes))
    (hzk : z.cells.size = k) (hk0 : 0 < k) (hs : a.eval s = v) (h : Grow T k enc base v L w1) (hbase : base ≤ w1.heap.size) (M : List α) (ad : Addr) (cap : Nat) (hM : RowsAt k enc w1 (.slice (some ad) M.length cap) M) (hn : 0 < M.length) (hlen : ∀ x, (enc x).length = k) (hone : ∀ c ∈ M, ∀ u ∈ enc c, u.oneCell' = true)
    (hx : a.eval x = .slice (some ad) M.length cap) (hl : L.length + M.length ≤ maxLen) (hbytes : (L.length + M.length) * bytes ≤ 140737488355328)
    (hK : ∀ v' w', Grow T k enc base v' (L ++ M) w' → w1.grownBy w' v.ownBlock → wpList P ops Q rest (a.put o.dst v') w') :
    wpList P ops Q (o :: rest) a w1 := by
  obtain ⟨i0, hi, hz0, hz1, hz2⟩ := info_parts hinfo
  obtain ⟨a', cap', hv', hr⟩ := hM
  simp only [Value.slice.injEq] at hv'
  obtain ⟨rfl, _, rfl⟩ := hv'
  obtain ⟨b, off, hbo, _⟩ := hr 0 hn
  simp only [Option.some.injEq] at hbo
  subst hbo
  refine wpList_append_own _ hgd s x ty ho base T i0 z k bytes hty hi hz0 hz1 hz2 hzk hk0 v _ _ hs h ⟨b, off, none⟩ M.length cap (rowOf enc M) hx (rowOf_length hlen M)
    (fun j u hu => ?_) (fun u hu => ?_) hl hbytes hbase ?_
  · have hj : j < M.length * k := by rw [← rowOf_length hlen M]; exact (List.getElem?_eq_some_iff.1 hu).1
    have hdiv : j / k < M.length := by rw [Nat.div_lt_iff_lt_mul hk0]; exact hj
    have hmod : j % k < k := Nat.mod_lt _ hk0
    have hsum : j / k * k + j % k = j := by rw [Nat.mul_comm]; exact Nat.div_add_mod j k
    obtain ⟨b', off', hbo', hrr⟩ := hr (j / k) hdiv
    simp only [Option.some.injEq, Addr.mk.injEq, and_true] at hbo'
    obtain ⟨rfl, rfl⟩ := hbo'
    rw [← hsum, rowOf_get hlen M _ hdiv _ hmod] at hu
    have := hrr (j % k) u hu
    have ha : (⟨b, off, none⟩ : Addr).add j = ⟨b, off + j, none⟩ := by unfold Addr.add; split <;> simp_all
    rw [ha, ← hsum, ← Nat.add_assoc]; exact this
  · unfold rowOf at hu
    obtain ⟨c, hc, hu⟩ := List.mem_flatMap.1 hu
    exact hone c hc u hu
  · intro v' w' hown hg _
    refine hK v' w' ?_ hg
    unfold Grow
    rw [rowOf_append, List.length_append]
    exact hown
/-- A whole struct stored into a block that is known, at the operation: lay it hidden, ahead of the walk; the arm: 'with_reducible refine HS.out _ _ _ _ _ ?_ ?_ ?_; exact rfl; exact ⟨_, _, rfl, rfl, rfl⟩; intro w1 h1 g1'. -/
abbrev Stores (P : Program) (T : TypeId) (g : Nat) (cs' : List Value) (arr : Array Value) (w : World) : Prop :=
  ∀ (ops : Array Oper) (rest : List Oper) (o : Oper) (a : Act) (Q : Exit → Act → World → Prop) (_ : o.guard = none) (_ : ∃ p q, o.op = .store T p q ∧ a.eval p = .pointer (some ⟨g, 0, none⟩) ∧ a.eval q = .agg arr)
    (_ : ∀ w', BlkAt g T cs' w' → w.grownBy w' (some g) → wpList P ops Q rest (a.put o.dst undef) w'), wpList P ops Q (o :: rest) a w
theorem stores_of {P : Program} {T : TypeId} {g : Nat} {cs cs' : List Value} {w : World} (hb : BlkAt g T cs w) (hl : cs'.length = cs.length) (hi : (P.info? T).map (·.size) = some cs'.length) (h1 : ∀ v ∈ cs', v.oneCell' = true) : Stores P T g cs' cs'.toArray w :=
  fun _ _ _ _ _ hgd ⟨p, q, ho, hx, hy⟩ h => wpList_store_blk hgd T p q ho g T cs cs' hx hy hb hl hi h1 h
end
end Go.Proofs.Yteoibolompiohaa
