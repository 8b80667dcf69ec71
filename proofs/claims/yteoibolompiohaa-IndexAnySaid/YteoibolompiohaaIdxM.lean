/- A tree in memory: its block, the row of its nodes, each node's two rows, the row of free ones, all apart; what each store makes of it. Conditions: as each theorem says. -/
import Derived.Test.YteoibolompiohaaIdxW
import Derived.Test.YteoibolompiohaaApt
namespace Go.Proofs.Yteoibolompiohaa
open Go.RowKit

structure Mem where
  g : Nat
  nb : Nat
  nc : Nat
  fv : Value
  N : List (Value × Value)
section
variable {α β : Type} {T T2 : TypeId} {k k2 : Nat} {enc : α → List Value} {enc2 : β → List Value} {base base2 : Nat} {v v2 v' : Value} {L : List α} {L2 : List β} {w w' : World}
theorem Grow.block (h : Grow T k enc base v L w) {b : Nat} (hb : v.ownBlock = some b) : ∃ cs, w.heap[b]? = some (.cells cs T (0, 0)) := by
  rcases h.2 with ⟨rfl, _⟩ | ⟨g, cap, cur, rfl, _, hh, _⟩
  · simp [Value.ownBlock] at hb
  · simp only [Value.ownBlock, Option.some.injEq] at hb
    subst hb
    exact ⟨_, hh⟩
theorem Grow.ne (h : Grow T k enc base v L w) (h2 : Grow T2 k2 enc2 base2 v2 L2 w) (hT : T ≠ T2) {b : Nat} (hb : v.ownBlock = some b) : v2.ownBlock ≠ some b := by
  intro hb2
  obtain ⟨c1, e1⟩ := h.block hb
  obtain ⟨c2, e2⟩ := h2.block hb2
  rw [e1] at e2
  simp only [Option.some.injEq, Obj.cells.injEq] at e2
  exact hT e2.2.1
theorem Grow.ltb (h : Grow T k enc base v L w) {b : Nat} (hb : v.ownBlock = some b) : b < w.heap.size := by
  obtain ⟨c1, e1⟩ := h.block hb
  exact (Array.getElem?_eq_some_iff.1 e1).1
theorem Grow.kept2 {row : Option Nat} (h : Grow T k enc base v L w) (hg : w.grownBy w' row) (hne : ∀ b, v.ownBlock = some b → row ≠ some b) : Grow T k enc base v L w' := by
  refine World.ownsRow.kept h hg ?_
  cases e : v.ownBlock with
  | none => exact .inl rfl
  | some b => exact .inr fun e2 => hne b e e2.symm
theorem grow_own {n c g : Nat} : (Value.slice (some ⟨g, 0, none⟩) n c).ownBlock = some g := rfl
/-- One cell of an element stored. -/
theorem Grow.storeCell {g n c : Nat} (h : Grow T k enc base (.slice (some ⟨g, 0, none⟩) n c) L w) (hlen : ∀ x, (enc x).length = k) (i : Nat) (hi : i < L.length) (j : Nat) (hj : j < k) (u : Value) (x : α) (hx : enc x = (enc L[i]).set j u) :
    Grow T k enc base (.slice (some ⟨g, 0, none⟩) n c) (L.set i x) (w.setCell ⟨g, i * k + j, none⟩ u) ∧ w.grownBy (w.setCell ⟨g, i * k + j, none⟩ u) (some g) := by
  have h2 := World.ownsRow.stored (w := w) (show w.ownsRow base T k (.slice (some ⟨g, 0, none⟩) n c) n (rowOf enc L) by
    rcases h.2 with ⟨h', _⟩ | ⟨g', cap', cur, h', r⟩
    · simp at h'
    · simp only [Value.slice.injEq] at h'
      obtain ⟨_, hn, _⟩ := h'
      rw [hn]; rw [hn] at h; exact h) (i * k + j) u
  have hn : n = L.length := (grow_cap h).1
  have hset : ∀ (L : List α) (i : Nat) (hi : i < L.length), enc x = (enc L[i]).set j u → (rowOf enc L).set (i * k + j) u = rowOf enc (L.set i x) := by
    intro L
    induction L with
    | nil => intro i hi; simp at hi
    | cons a L ih =>
      intro i hi hx
      unfold rowOf at *
      cases i with
      | zero =>
        rw [Nat.zero_mul, Nat.zero_add, List.flatMap_cons, List.set_append_left _ _ (by rw [hlen]; exact hj), List.set_cons_zero, List.flatMap_cons]
        rw [hx]; rfl
      | succ i =>
        rw [List.flatMap_cons, show (i + 1) * k + j = (enc a).length + (i * k + j) by rw [hlen, Nat.succ_mul]; omega, List.set_append_right _ _ (by omega), show (enc a).length + (i * k + j) - (enc a).length = i * k + j by omega,
          ih i (by simpa using hi) (by simpa using hx), List.set_cons_succ, List.flatMap_cons]
  refine ⟨?_, h2.2⟩
  unfold Grow
  rw [List.length_set, ← hset L i hi hx, ← hn]
  exact h2.1
end
def Mem.foot (m : Mem) (b : Nat) : Prop := b = m.g ∨ b = m.nb ∨ m.fv.ownBlock = some b ∨ ∃ x ∈ m.N, x.1.ownBlock = some b ∨ x.2.ownBlock = some b
structure TreeAt (m : Mem) (t : Tr) (w : World) : Prop where
  top : BlkAt m.g TrT [.slice (some ⟨m.nb, 0, none⟩) t.nodes.length m.nc, m.fv, .int .i64 (t.root : Int), .int .i64 (t.many : Int)] w
  row : Grow NdT 2 ndCells 0 (.slice (some ⟨m.nb, 0, none⟩) t.nodes.length m.nc) m.N w
  free : Grow InT 1 inCells 0 m.fv t.free w
  ps : ∀ i (h : i < m.N.length), Grow PrT 2 prCells 0 (m.N[i]).1 (t.nd i).ps w
  ks : ∀ i (h : i < m.N.length), Grow InT 1 inCells 0 (m.N[i]).2 (t.nd i).ks w
  psep : ∀ i j (hi : i < m.N.length) (hj : j < m.N.length) b, i ≠ j → (m.N[i]).1.ownBlock = some b → (m.N[j]).1.ownBlock ≠ some b
  ksep : ∀ i j (hi : i < m.N.length) (hj : j < m.N.length) b, i ≠ j → (m.N[i]).2.ownBlock = some b → (m.N[j]).2.ownBlock ≠ some b
  fsep : ∀ i (hi : i < m.N.length) b, (m.N[i]).2.ownBlock = some b → m.fv.ownBlock ≠ some b
/-- What a step leaves alone. -/
structure Stp (m m' : Mem) (w w' : World) : Prop where
  apart : Apart m.foot w w'
  foot : ∀ b, m'.foot b → m.foot b ∨ w.heap.size ≤ b
  g : m'.g = m.g
theorem Stp.refl (m : Mem) (w : World) : Stp m m w w := ⟨Apart.refl _ _, fun _ h => .inl h, rfl⟩
theorem Stp.trans {m m1 m2 : Mem} {w w1 w2 : World} (h : Stp m m1 w w1) (k : Stp m1 m2 w1 w2) : Stp m m2 w w2 :=
  ⟨h.apart.trans k.apart h.foot, fun b hb => by
    rcases k.foot b hb with h1 | h1
    · exact h.foot b h1
    · exact .inr (Nat.le_trans h.apart.size h1), k.g.trans h.g⟩
theorem Stp.of_below {m : Mem} {w w' : World} (h : Below w.heap.size w w') : Stp m m w w' := ⟨Apart.of_below h, fun _ h => .inl h, rfl⟩
section
variable {m m' : Mem} {t t' : Tr} {w w' : World} {i : Nat}
theorem TreeAt.len (h : TreeAt m t w) : t.nodes.length = m.N.length := (grow_cap h.row).1
theorem TreeAt.g_lt (h : TreeAt m t w) : m.g < w.heap.size := h.top.lt
theorem TreeAt.g_ne (h : TreeAt m t w) {T : TypeId} (hT : T ≠ TrT) {b : Nat} {cs : Array Value} (hb : w.heap[b]? = some (.cells cs T (0, 0))) : b ≠ m.g := by
  rintro rfl
  have := h.top
  unfold BlkAt at this
  rw [hb] at this
  simp only [Option.some.injEq, Obj.cells.injEq] at this
  exact hT this.2.1
theorem TreeAt.foot_lt (h : TreeAt m t w) {b : Nat} (hb : m.foot b) : b < w.heap.size := by
  rcases hb with rfl | rfl | hb | ⟨x, hx, hb⟩
  · exact h.g_lt
  · exact h.row.ltb rfl
  · exact h.free.ltb hb
  · obtain ⟨i, hi, rfl⟩ := List.getElem_of_mem hx
    rcases hb with hb | hb
    · exact (h.ps i hi).ltb hb
    · exact (h.ks i hi).ltb hb
/-- What is changed elsewhere leaves the tree. -/
theorem TreeAt.away {F : Nat → Prop} (h : TreeAt m t w) (ha : Apart F w w') (hF : ∀ b, F b → ¬ m.foot b) : TreeAt m t w' := by
  have hk : ∀ {α : Type} {T : TypeId} {k : Nat} {enc : α → List Value} {v : Value} {L : List α}, Grow T k enc 0 v L w → (∀ b, v.ownBlock = some b → m.foot b) → Grow T k enc 0 v L w' := fun {α T k enc v L} hg hv => by
    refine ⟨hg.1, ?_⟩
    rcases hg.2 with h2 | ⟨g, cap, cur, he, hb, hh, r⟩
    · exact .inl h2
    · refine .inr ⟨g, cap, cur, he, hb, ?_, r⟩
      rw [ha.block g (Array.getElem?_eq_some_iff.1 hh).1 (fun hf => hF g hf (hv g (by rw [he]; rfl)))]
      exact hh
  refine ⟨?_, hk h.row (fun b hb => by simp only [Value.ownBlock, Option.some.injEq] at hb; exact .inr (.inl hb.symm)), hk h.free (fun b hb => .inr (.inr (.inl hb))),
    fun i hi => hk (h.ps i hi) (fun b hb => .inr (.inr (.inr ⟨_, List.getElem_mem hi, .inl hb⟩))), fun i hi => hk (h.ks i hi) (fun b hb => .inr (.inr (.inr ⟨_, List.getElem_mem hi, .inr hb⟩))), h.psep, h.ksep, h.fsep⟩
  have := h.top
  unfold BlkAt at this ⊢
  rw [ha.block m.g h.g_lt (fun hf => hF _ hf (.inl rfl))]
  exact this
theorem TreeAt.grew (h : TreeAt m t w) (hb : Below w.heap.size w w') : TreeAt m t w' := h.away (Apart.of_below (F := fun _ => False) hb) (fun _ hf => hf.elim)
theorem TreeAt.drew (h : TreeAt m t w) : TreeAt m t w.drew := h.grew (Below.refl _ _).drew
/-- The tree is known by its nodes alone. -/
theorem TreeAt.same (h : TreeAt m t w) (hl : t'.nodes.length = t.nodes.length) (hn : ∀ i, i < t.nodes.length → t'.nd i = t.nd i) (hf : t'.free = t.free) (hr : t'.root = t.root) (hm : t'.many = t.many) : TreeAt m t' w := by
  have hln := h.len
  exact ⟨by rw [hl, hr, hm]; exact h.top, by rw [hl]; exact h.row, by rw [hf]; exact h.free, fun i hi => by rw [hn i (by omega)]; exact h.ps i hi, fun i hi => by rw [hn i (by omega)]; exact h.ks i hi, h.psep, h.ksep, h.fsep⟩
/-- A node's two slices. -/
theorem TreeAt.node (h : TreeAt m t w) (i : Nat) (hi : i < t.nodes.length) : ∃ pv kv, m.N[i]? = some (pv, kv) ∧ w.cell? ⟨m.nb, i * 2, none⟩ = some pv ∧ w.cell? ⟨m.nb, i * 2 + 1, none⟩ = some kv ∧ Grow PrT 2 prCells 0 pv (t.nd i).ps w ∧ Grow InT 1 inCells 0 kv (t.nd i).ks w := by
  have hi2 : i < m.N.length := by rw [← h.len]; exact hi
  have hc := h.row.cells ndCells_len (by rw [h.len]) i hi2
  exact ⟨(m.N[i]).1, (m.N[i]).2, by rw [List.getElem?_eq_getElem hi2], hc 0 _ rfl, hc 1 _ rfl, h.ps i hi2, h.ks i hi2⟩
theorem TreeAt.thaw (h : TreeAt m t w) (o : Nat) : w.frozen? ⟨m.nb, o, none⟩ = false := h.row.thaw (by rw [h.len]) o
theorem TreeAt.nb_lt (h : TreeAt m t w) : m.nb < w.heap.size := h.row.ltb rfl
end
def Mem.setP (m : Mem) (i : Nat) (v : Value) : Mem := { m with N := m.N.set i (v, (m.N.getD i (undef, undef)).2) }
def Mem.setK (m : Mem) (i : Nat) (v : Value) : Mem := { m with N := m.N.set i ((m.N.getD i (undef, undef)).1, v) }
section
variable {m m' : Mem} {t t' : Tr} {w w' : World} {i : Nat}
theorem getD_N (hi : i < m.N.length) : m.N.getD i (undef, undef) = m.N[i] := by simp [List.getD, hi]
/-- A node's pairs are another row: the same block, or a new one. -/
theorem TreeAt.storeP (h : TreeAt m t w) (hi : i < m.N.length) {v' : Value} {ps' : List Pr} (hg : w.grownBy w' (m.N[i]).1.ownBlock) (hG : Grow PrT 2 prCells 0 v' ps' w') (hv : v'.ownBlock = (m.N[i]).1.ownBlock ∨ ∀ b, v'.ownBlock = some b → w.heap.size ≤ b) :
    TreeAt (m.setP i v') (t.put i ⟨ps', (t.nd i).ks⟩) (w'.setCell ⟨m.nb, i * 2, none⟩ v') ∧ Stp m (m.setP i v') w (w'.setCell ⟨m.nb, i * 2, none⟩ v') := by
  have hlen := h.len
  have hit : i < t.nodes.length := by omega
  have hrowne : ∀ {T : TypeId}, T ≠ PrT → ∀ {b : Nat} {cs : Array Value}, w.heap[b]? = some (.cells cs T (0, 0)) → (m.N[i]).1.ownBlock ≠ some b := fun {T} hT {b cs} hb e => by
    obtain ⟨c1, e1⟩ := (h.ps i hi).block e
    rw [hb] at e1
    simp only [Option.some.injEq, Obj.cells.injEq] at e1
    exact hT e1.2.1
  have hrow' : Grow NdT 2 ndCells 0 (.slice (some ⟨m.nb, 0, none⟩) t.nodes.length m.nc) m.N w' := h.row.kept2 hg (fun b hb => by
    obtain ⟨c1, e1⟩ := h.row.block hb
    exact hrowne (by decide) e1)
  have htop' : BlkAt m.g TrT [.slice (some ⟨m.nb, 0, none⟩) t.nodes.length m.nc, m.fv, .int .i64 (t.root : Int), .int .i64 (t.many : Int)] w' := h.top.grown hg (fun e => hrowne (by decide) h.top e.symm)
  have hnb : ∀ {α : Type} {T : TypeId} {k : Nat} {enc : α → List Value} {v : Value} {L : List α}, Grow T k enc 0 v L w' → T ≠ NdT → ∀ b, v.ownBlock = some b → some m.nb ≠ some b := fun hgr hT b hb e => by
    simp only [Option.some.injEq] at e
    subst e
    exact hgr.ne hrow' hT hb rfl
  obtain ⟨hN, hgN⟩ := hrow'.storeCell ndCells_len i hi 0 (by omega) v' (v', (m.N[i]).2) rfl
  rw [Nat.add_zero] at hN hgN
  have hfree' : Grow InT 1 inCells 0 m.fv t.free w' := h.free.kept2 hg (fun b hb => by obtain ⟨c1, e1⟩ := h.free.block hb; exact hrowne (by decide) e1)
  have hgm : m.g ≠ m.nb := fun e => by
    obtain ⟨c1, e1⟩ := h.row.block rfl
    exact h.g_ne (by decide) e1 e.symm
  have hps' : ∀ j (hj : j < m.N.length), j ≠ i → Grow PrT 2 prCells 0 (m.N[j]).1 (t.nd j).ps w' := fun j hj hne => (h.ps j hj).kept2 hg (fun b hb => fun e => h.psep j i hj hi b hne hb e)
  have hks' : ∀ j (hj : j < m.N.length), Grow InT 1 inCells 0 (m.N[j]).2 (t.nd j).ks w' := fun j hj => (h.ks j hj).kept2 hg (fun b hb => by obtain ⟨c1, e1⟩ := (h.ks j hj).block hb; exact hrowne (by decide) e1)
  have hsz : w.heap.size ≤ w'.heap.size := hg.size
  have hNs : (m.setP i v').N = m.N.set i (v', (m.N[i]).2) := by unfold Mem.setP; rw [getD_N hi]
  have hg1 : ∀ j (hj : j < (m.setP i v').N.length) (hj2 : j < m.N.length), j ≠ i → (m.setP i v').N[j] = m.N[j] := fun j hj hj2 hne => by
    simp only [hNs]; rw [List.getElem_set_ne (Ne.symm hne)]
  have hg2 : ∀ (hj : i < (m.setP i v').N.length), (m.setP i v').N[i] = (v', (m.N[i]).2) := fun hj => by simp only [hNs]; rw [List.getElem_set_self]
  have hNl : (m.setP i v').N.length = m.N.length := by rw [hNs, List.length_set]
  refine ⟨⟨?_, ?_, ?_, fun j hj => ?_, fun j hj => ?_, fun a b ha hb c hab e1 => ?_, fun a b ha hb c hab e1 => ?_, fun a ha c e1 => ?_⟩, ⟨⟨?_, ?_, ?_, ?_, fun b hb hf => ?_⟩, fun b hb => ?_, rfl⟩⟩
  · rw [put_len]; exact htop'.grown hgN (fun e => hgm (by simpa using e))
  · rw [put_len, hNs]; exact hN
  · exact hfree'.kept2 hgN (hnb hfree' (by decide))
  · have hj2 : j < m.N.length := by omega
    by_cases e : j = i
    · subst e
      rw [hg2 hj, nd_put_same hit]
      exact hG.kept2 hgN (hnb hG (by decide))
    · rw [hg1 j hj hj2 e, nd_put_ne e]
      exact (hps' j hj2 e).kept2 hgN (hnb (hps' j hj2 e) (by decide))
  · have hj2 : j < m.N.length := by omega
    have hk := (hks' j hj2).kept2 hgN (hnb (hks' j hj2) (by decide))
    by_cases e : j = i
    · subst e
      rw [hg2 hj, nd_put_same hit]
      exact hk
    · rw [hg1 j hj hj2 e, nd_put_ne e]
      exact hk
  · have ha2 : a < m.N.length := by omega
    have hb2 : b < m.N.length := by omega
    by_cases ea : a = i
    · subst ea
      rw [hg2 ha] at e1
      rw [hg1 b hb hb2 (Ne.symm hab)]
      rcases hv with hv | hv
      · exact h.psep a b ha2 hb2 c hab (by rw [← hv]; exact e1)
      · intro e2
        have := (h.ps b hb2).ltb e2
        have := hv c e1
        omega
    · rw [hg1 a ha ha2 ea] at e1
      by_cases eb : b = i
      · subst eb
        rw [hg2 hb]
        rcases hv with hv | hv
        · rw [hv]; exact h.psep a b ha2 hb2 c hab e1
        · intro e2
          have := (h.ps a ha2).ltb e1
          have := hv c e2
          omega
      · rw [hg1 b hb hb2 eb]
        exact h.psep a b ha2 hb2 c hab e1
  · have ha2 : a < m.N.length := by omega
    have hb2 : b < m.N.length := by omega
    have hsnd : ∀ j (hj : j < (m.setP i v').N.length) (hj2 : j < m.N.length), ((m.setP i v').N[j]).2 = (m.N[j]).2 := fun j hj hj2 => by
      by_cases e : j = i
      · subst e; rw [hg2 hj]
      · rw [hg1 j hj hj2 e]
    rw [hsnd a ha ha2] at e1
    rw [hsnd b hb hb2]
    exact h.ksep a b ha2 hb2 c hab e1
  · have ha2 : a < m.N.length := by omega
    have hsnd : ((m.setP i v').N[a]).2 = (m.N[a]).2 := by
      by_cases e : a = i
      · subst e; rw [hg2 ha]
      · rw [hg1 a ha ha2 e]
    rw [hsnd] at e1
    exact h.fsep a ha2 c e1
  · exact hgN.os.trans hg.os
  · exact hgN.tape.trans hg.tape
  · exact hgN.output.trans hg.output
  · exact Nat.le_trans hsz hgN.size
  · rw [hgN.block b (by omega) (fun e => hf (.inr (.inl (by simpa using e)))), hg.block b hb (fun e => hf (.inr (.inr (.inr ⟨_, List.getElem_mem hi, .inl e.symm⟩))))]
  · rcases hb with rfl | rfl | hb | ⟨x, hx, hb⟩
    · exact .inl (.inl rfl)
    · exact .inl (.inr (.inl rfl))
    · exact .inl (.inr (.inr (.inl hb)))
    · rw [hNs] at hx
      rcases List.mem_or_eq_of_mem_set hx with hx | rfl
      · exact .inl (.inr (.inr (.inr ⟨x, hx, hb⟩)))
      · rcases hb with hb | hb
        · rcases hv with hv | hv
          · exact .inl (.inr (.inr (.inr ⟨_, List.getElem_mem hi, .inl (by rw [← hv]; exact hb)⟩)))
          · exact .inr (hv b hb)
        · exact .inl (.inr (.inr (.inr ⟨_, List.getElem_mem hi, .inr hb⟩)))
/-- .. or its kids. -/
theorem TreeAt.storeK (h : TreeAt m t w) (hi : i < m.N.length) {v' : Value} {ks' : List Nat} (hg : w.grownBy w' (m.N[i]).2.ownBlock) (hG : Grow InT 1 inCells 0 v' ks' w') (hv : v'.ownBlock = (m.N[i]).2.ownBlock ∨ ∀ b, v'.ownBlock = some b → w.heap.size ≤ b) :
    TreeAt (m.setK i v') (t.put i ⟨(t.nd i).ps, ks'⟩) (w'.setCell ⟨m.nb, i * 2 + 1, none⟩ v') ∧ Stp m (m.setK i v') w (w'.setCell ⟨m.nb, i * 2 + 1, none⟩ v') := by
  have hlen := h.len
  have hit : i < t.nodes.length := by omega
  have hrowne : ∀ {T : TypeId}, T ≠ InT → ∀ {b : Nat} {cs : Array Value}, w.heap[b]? = some (.cells cs T (0, 0)) → (m.N[i]).2.ownBlock ≠ some b := fun {T} hT {b cs} hb e => by
    obtain ⟨c1, e1⟩ := (h.ks i hi).block e
    rw [hb] at e1
    simp only [Option.some.injEq, Obj.cells.injEq] at e1
    exact hT e1.2.1
  have hrow' : Grow NdT 2 ndCells 0 (.slice (some ⟨m.nb, 0, none⟩) t.nodes.length m.nc) m.N w' := h.row.kept2 hg (fun b hb => by
    obtain ⟨c1, e1⟩ := h.row.block hb
    exact hrowne (by decide) e1)
  have htop' : BlkAt m.g TrT [.slice (some ⟨m.nb, 0, none⟩) t.nodes.length m.nc, m.fv, .int .i64 (t.root : Int), .int .i64 (t.many : Int)] w' := h.top.grown hg (fun e => hrowne (by decide) h.top e.symm)
  have hnb : ∀ {α : Type} {T : TypeId} {k : Nat} {enc : α → List Value} {v : Value} {L : List α}, Grow T k enc 0 v L w' → T ≠ NdT → ∀ b, v.ownBlock = some b → some m.nb ≠ some b := fun hgr hT b hb e => by
    simp only [Option.some.injEq] at e
    subst e
    exact hgr.ne hrow' hT hb rfl
  obtain ⟨hN, hgN⟩ := hrow'.storeCell ndCells_len i hi 1 (by omega) v' ((m.N[i]).1, v') rfl
  have hfree' : Grow InT 1 inCells 0 m.fv t.free w' := h.free.kept2 hg (fun b hb e => h.fsep i hi b e hb)
  have hgm : m.g ≠ m.nb := fun e => by
    obtain ⟨c1, e1⟩ := h.row.block rfl
    exact h.g_ne (by decide) e1 e.symm
  have hks' : ∀ j (hj : j < m.N.length), j ≠ i → Grow InT 1 inCells 0 (m.N[j]).2 (t.nd j).ks w' := fun j hj hne => (h.ks j hj).kept2 hg (fun b hb => fun e => h.ksep j i hj hi b hne hb e)
  have hps' : ∀ j (hj : j < m.N.length), Grow PrT 2 prCells 0 (m.N[j]).1 (t.nd j).ps w' := fun j hj => (h.ps j hj).kept2 hg (fun b hb => by obtain ⟨c1, e1⟩ := (h.ps j hj).block hb; exact hrowne (by decide) e1)
  have hsz : w.heap.size ≤ w'.heap.size := hg.size
  have hNs : (m.setK i v').N = m.N.set i ((m.N[i]).1, v') := by unfold Mem.setK; rw [getD_N hi]
  have hg1 : ∀ j (hj : j < (m.setK i v').N.length) (hj2 : j < m.N.length), j ≠ i → (m.setK i v').N[j] = m.N[j] := fun j hj hj2 hne => by
    simp only [hNs]; rw [List.getElem_set_ne (Ne.symm hne)]
  have hg2 : ∀ (hj : i < (m.setK i v').N.length), (m.setK i v').N[i] = ((m.N[i]).1, v') := fun hj => by simp only [hNs]; rw [List.getElem_set_self]
  have hNl : (m.setK i v').N.length = m.N.length := by rw [hNs, List.length_set]
  refine ⟨⟨?_, ?_, ?_, fun j hj => ?_, fun j hj => ?_, fun a b ha hb c hab e1 => ?_, fun a b ha hb c hab e1 => ?_, fun a ha c e1 => ?_⟩, ⟨⟨?_, ?_, ?_, ?_, fun b hb hf => ?_⟩, fun b hb => ?_, rfl⟩⟩
  · rw [put_len]; exact htop'.grown hgN (fun e => hgm (by simpa using e))
  · rw [put_len, hNs]; exact hN
  · exact hfree'.kept2 hgN (hnb hfree' (by decide))
  · have hj2 : j < m.N.length := by omega
    have hk := (hps' j hj2).kept2 hgN (hnb (hps' j hj2) (by decide))
    by_cases e : j = i
    · subst e
      rw [hg2 hj, nd_put_same hit]
      exact hk
    · rw [hg1 j hj hj2 e, nd_put_ne e]
      exact hk
  · have hj2 : j < m.N.length := by omega
    by_cases e : j = i
    · subst e
      rw [hg2 hj, nd_put_same hit]
      exact hG.kept2 hgN (hnb hG (by decide))
    · rw [hg1 j hj hj2 e, nd_put_ne e]
      exact (hks' j hj2 e).kept2 hgN (hnb (hks' j hj2 e) (by decide))
  · have ha2 : a < m.N.length := by omega
    have hb2 : b < m.N.length := by omega
    have hsnd : ∀ j (hj : j < (m.setK i v').N.length) (hj2 : j < m.N.length), ((m.setK i v').N[j]).1 = (m.N[j]).1 := fun j hj hj2 => by
      by_cases e : j = i
      · subst e; rw [hg2 hj]
      · rw [hg1 j hj hj2 e]
    rw [hsnd a ha ha2] at e1
    rw [hsnd b hb hb2]
    exact h.psep a b ha2 hb2 c hab e1
  · have ha2 : a < m.N.length := by omega
    have hb2 : b < m.N.length := by omega
    by_cases ea : a = i
    · subst ea
      rw [hg2 ha] at e1
      rw [hg1 b hb hb2 (Ne.symm hab)]
      rcases hv with hv | hv
      · exact h.ksep a b ha2 hb2 c hab (by rw [← hv]; exact e1)
      · intro e2
        have := (h.ks b hb2).ltb e2
        have := hv c e1
        omega
    · rw [hg1 a ha ha2 ea] at e1
      by_cases eb : b = i
      · subst eb
        rw [hg2 hb]
        rcases hv with hv | hv
        · rw [hv]; exact h.ksep a b ha2 hb2 c hab e1
        · intro e2
          have := (h.ks a ha2).ltb e1
          have := hv c e2
          omega
      · rw [hg1 b hb hb2 eb]
        exact h.ksep a b ha2 hb2 c hab e1
  · have ha2 : a < m.N.length := by omega
    by_cases e : a = i
    · subst e
      rw [hg2 ha] at e1
      rcases hv with hv | hv
      · exact h.fsep a ha2 c (by rw [← hv]; exact e1)
      · intro e2
        have := h.free.ltb e2
        have := hv c e1
        omega
    · rw [hg1 a ha ha2 e] at e1
      exact h.fsep a ha2 c e1
  · exact hgN.os.trans hg.os
  · exact hgN.tape.trans hg.tape
  · exact hgN.output.trans hg.output
  · exact Nat.le_trans hsz hgN.size
  · rw [hgN.block b (by omega) (fun e => hf (.inr (.inl (by simpa using e)))), hg.block b hb (fun e => hf (.inr (.inr (.inr ⟨_, List.getElem_mem hi, .inr e.symm⟩))))]
  · rcases hb with rfl | rfl | hb | ⟨x, hx, hb⟩
    · exact .inl (.inl rfl)
    · exact .inl (.inr (.inl rfl))
    · exact .inl (.inr (.inr (.inl hb)))
    · rw [hNs] at hx
      rcases List.mem_or_eq_of_mem_set hx with hx | rfl
      · exact .inl (.inr (.inr (.inr ⟨x, hx, hb⟩)))
      · rcases hb with hb | hb
        · exact .inl (.inr (.inr (.inr ⟨_, List.getElem_mem hi, .inl hb⟩)))
        · rcases hv with hv | hv
          · exact .inl (.inr (.inr (.inr ⟨_, List.getElem_mem hi, .inr (by rw [← hv]; exact hb)⟩)))
          · exact .inr (hv b hb)
end
end Go.Proofs.Yteoibolompiohaa
