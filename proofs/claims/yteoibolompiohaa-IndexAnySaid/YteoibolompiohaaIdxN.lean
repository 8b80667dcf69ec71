/- A tree in memory: the other stores. Conditions: as each theorem says. -/
import Derived.Test.YteoibolompiohaaIdxM
namespace Go.Proofs.Yteoibolompiohaa
open Go.RowKit

abbrev nilS : Value := .slice none 0 0
section
variable {m m' : Mem} {t t' : Tr} {w w' : World} {i : Nat}
/-- A node's pairs written where they lie. -/
theorem TreeAt.writeP (h : TreeAt m t w) (hi : i < m.N.length) {ps' : List Pr} (hg : w.grownBy w' (m.N[i]).1.ownBlock) (hG : Grow PrT 2 prCells 0 (m.N[i]).1 ps' w') : TreeAt m (t.put i ⟨ps', (t.nd i).ks⟩) w' ∧ Stp m m w w' := by
  have hlen := h.len
  have hit : i < t.nodes.length := by omega
  have hrowne : ∀ {T : TypeId}, T ≠ PrT → ∀ {b : Nat} {cs : Array Value}, w.heap[b]? = some (.cells cs T (0, 0)) → (m.N[i]).1.ownBlock ≠ some b := fun {T} hT {b cs} hb e => by
    obtain ⟨c1, e1⟩ := (h.ps i hi).block e
    rw [hb] at e1
    simp only [Option.some.injEq, Obj.cells.injEq] at e1
    exact hT e1.2.1
  refine ⟨⟨?_, ?_, ?_, fun j hj => ?_, fun j hj => ?_, h.psep, h.ksep, h.fsep⟩, ⟨⟨hg.os, hg.tape, hg.output, hg.size, fun b hb hf => hg.block b hb (fun e => hf (.inr (.inr (.inr ⟨_, List.getElem_mem hi, .inl e.symm⟩))))⟩, fun b hb => .inl hb, rfl⟩⟩
  · rw [put_len]; exact h.top.grown hg (fun e => hrowne (by decide) h.top e.symm)
  · rw [put_len]; exact h.row.kept2 hg (fun b hb => by obtain ⟨c1, e1⟩ := h.row.block hb; exact hrowne (by decide) e1)
  · exact h.free.kept2 hg (fun b hb => by obtain ⟨c1, e1⟩ := h.free.block hb; exact hrowne (by decide) e1)
  · by_cases e : j = i
    · subst e; rw [nd_put_same hit]; exact hG
    · rw [nd_put_ne e]; exact (h.ps j hj).kept2 hg (fun b hb => fun e2 => h.psep j i hj hi b e hb e2)
  · have hk := (h.ks j hj).kept2 hg (fun b hb => by obtain ⟨c1, e1⟩ := (h.ks j hj).block hb; exact hrowne (by decide) e1)
    by_cases e : j = i
    · subst e; rw [nd_put_same hit]; exact hk
    · rw [nd_put_ne e]; exact hk
/-- A pair stored, whole, and its number alone. -/
theorem TreeAt.storePair (h : TreeAt m t w) (hi : i < m.N.length) {b n c : Nat} (hv : (m.N[i]).1 = .slice (some ⟨b, 0, none⟩) n c) (j : Nat) (hj : j < (t.nd i).ps.length) (x : Pr) :
    TreeAt m (t.put i ⟨(t.nd i).ps.set j x, (t.nd i).ks⟩) (w.setCells b (j * 2) (prCells x)) ∧ Stp m m w (w.setCells b (j * 2) (prCells x)) := by
  have hG := h.ps i hi
  rw [hv] at hG
  obtain ⟨h1, h2⟩ := hG.stores prCells_len j hj x _ rfl
  exact h.writeP hi (by rw [hv]; exact h2) (by rw [hv]; exact h1)
theorem TreeAt.storeNum (h : TreeAt m t w) (hi : i < m.N.length) {b n c : Nat} (hv : (m.N[i]).1 = .slice (some ⟨b, 0, none⟩) n c) (j : Nat) (hj : j < (t.nd i).ps.length) (k : Key) (hk : ((t.nd i).ps[j]).1 = k) (x : Int) :
    TreeAt m (t.put i ⟨(t.nd i).ps.set j (k, x), (t.nd i).ks⟩) (w.setCell ⟨b, j * 2 + 1, none⟩ (.int .i64 x)) ∧ Stp m m w (w.setCell ⟨b, j * 2 + 1, none⟩ (.int .i64 x)) := by
  have hG := h.ps i hi
  rw [hv] at hG
  obtain ⟨h1, h2⟩ := hG.storeCell prCells_len j hj 1 (by omega) (.int .i64 x) (k, x) (by rw [← hk]; rfl)
  exact h.writeP hi (by rw [hv]; exact h2) (by rw [hv]; exact h1)
/-- A store into the tree's own block. -/
theorem TreeAt.outer (h : TreeAt m t w) {cs : List Value} (hB : BlkAt m.g TrT cs w') (hg : w.grownBy w' (some m.g)) (nb nc nodes root many : Nat) (fv : Value) (hcs : cs = [.slice (some ⟨nb, 0, none⟩) nodes nc, fv, .int .i64 (root : Int), .int .i64 (many : Int)])
    (h1 : nb = m.nb) (h2 : nc = m.nc) (h3 : nodes = t.nodes.length) (h4 : fv = m.fv) : TreeAt m { t with root := root, many := many } w' ∧ Stp m m w w' := by
  subst h1 h2 h3 h4 hcs
  have hne : ∀ {T : TypeId}, T ≠ TrT → ∀ {b : Nat} {cs : Array Value}, w.heap[b]? = some (.cells cs T (0, 0)) → some m.g ≠ some b := fun {T} hT {b cs} hb e => h.g_ne hT hb (by simpa using e.symm)
  refine ⟨⟨hB, ?_, ?_, fun j hj => ?_, fun j hj => ?_, h.psep, h.ksep, h.fsep⟩, ⟨⟨hg.os, hg.tape, hg.output, hg.size, fun b hb hf => hg.block b hb (fun e => hf (.inl (by simpa using e)))⟩, fun b hb => .inl hb, rfl⟩⟩
  · exact h.row.kept2 hg (fun b hb => by obtain ⟨c1, e1⟩ := h.row.block hb; exact hne (by decide) e1)
  · exact h.free.kept2 hg (fun b hb => by obtain ⟨c1, e1⟩ := h.free.block hb; exact hne (by decide) e1)
  · exact (h.ps j hj).kept2 hg (fun b hb => by obtain ⟨c1, e1⟩ := (h.ps j hj).block hb; exact hne (by decide) e1)
  · exact (h.ks j hj).kept2 hg (fun b hb => by obtain ⟨c1, e1⟩ := (h.ks j hj).block hb; exact hne (by decide) e1)
theorem TreeAt.setRoot (h : TreeAt m t w) (r : Nat) : TreeAt m { t with root := r } (w.setCell ⟨m.g, 2, none⟩ (.int .i64 (r : Int))) ∧ Stp m m w (w.setCell ⟨m.g, 2, none⟩ (.int .i64 (r : Int))) :=
  h.outer (h.top.set 2 _) (grown_set w m.g 2 _) m.nb m.nc _ r t.many m.fv rfl rfl rfl rfl rfl
theorem TreeAt.setMany (h : TreeAt m t w) (r : Nat) : TreeAt m { t with many := r } (w.setCell ⟨m.g, 3, none⟩ (.int .i64 (r : Int))) ∧ Stp m m w (w.setCell ⟨m.g, 3, none⟩ (.int .i64 (r : Int))) :=
  h.outer (h.top.set 3 _) (grown_set w m.g 3 _) m.nb m.nc _ t.root r m.fv rfl rfl rfl rfl rfl
/-- The row of free nodes is another one, or was written. -/
theorem TreeAt.storeF (h : TreeAt m t w) {v' : Value} {free' : List Nat} (hg : w.grownBy w' m.fv.ownBlock) (hG : Grow InT 1 inCells 0 v' free' w') (hv : v'.ownBlock = m.fv.ownBlock ∨ ∀ b, v'.ownBlock = some b → w.heap.size ≤ b) :
    TreeAt { m with fv := v' } { t with free := free' } (w'.setCell ⟨m.g, 1, none⟩ v') ∧ Stp m { m with fv := v' } w (w'.setCell ⟨m.g, 1, none⟩ v') := by
  have hrowne : ∀ {T : TypeId}, T ≠ InT → ∀ {b : Nat} {cs : Array Value}, w.heap[b]? = some (.cells cs T (0, 0)) → m.fv.ownBlock ≠ some b := fun {T} hT {b cs} hb e => by
    obtain ⟨c1, e1⟩ := h.free.block e
    rw [hb] at e1
    simp only [Option.some.injEq, Obj.cells.injEq] at e1
    exact hT e1.2.1
  have htop' : BlkAt m.g TrT [.slice (some ⟨m.nb, 0, none⟩) t.nodes.length m.nc, m.fv, .int .i64 (t.root : Int), .int .i64 (t.many : Int)] w' := h.top.grown hg (fun e => hrowne (by decide) h.top e.symm)
  have hB := htop'.set 1 v'
  have hgN := grown_set w' m.g 1 v'
  have hne : ∀ {α : Type} {T : TypeId} {k : Nat} {enc : α → List Value} {v : Value} {L : List α}, Grow T k enc 0 v L w' → T ≠ TrT → ∀ b, v.ownBlock = some b → some m.g ≠ some b := fun hgr hT b hb e => by
    simp only [Option.some.injEq] at e
    subst e
    obtain ⟨c1, e1⟩ := hgr.block hb
    unfold BlkAt at htop'
    rw [htop'] at e1
    simp only [Option.some.injEq, Obj.cells.injEq] at e1
    exact hT e1.2.1.symm
  have hrow' := h.row.kept2 hg (fun b hb => by obtain ⟨c1, e1⟩ := h.row.block hb; exact hrowne (by decide) e1)
  have hps' : ∀ j (hj : j < m.N.length), Grow PrT 2 prCells 0 (m.N[j]).1 (t.nd j).ps w' := fun j hj => (h.ps j hj).kept2 hg (fun b hb => by obtain ⟨c1, e1⟩ := (h.ps j hj).block hb; exact hrowne (by decide) e1)
  have hks' : ∀ j (hj : j < m.N.length), Grow InT 1 inCells 0 (m.N[j]).2 (t.nd j).ks w' := fun j hj => (h.ks j hj).kept2 hg (fun b hb e => h.fsep j hj b hb e)
  refine ⟨⟨hB, hrow'.kept2 hgN (hne hrow' (by decide)), hG.kept2 hgN (hne hG (by decide)), fun j hj => (hps' j hj).kept2 hgN (hne (hps' j hj) (by decide)), fun j hj => (hks' j hj).kept2 hgN (hne (hks' j hj) (by decide)), h.psep, h.ksep, fun j hj b hb => ?_⟩,
    ⟨⟨hgN.os.trans hg.os, hgN.tape.trans hg.tape, hgN.output.trans hg.output, Nat.le_trans hg.size hgN.size, fun b hb hf => ?_⟩, fun b hb => ?_, rfl⟩⟩
  · rcases hv with hv | hv
    · rw [hv]; exact h.fsep j hj b hb
    · intro e
      have := (h.ks j hj).ltb hb
      have := hv b e
      omega
  · rw [hgN.block b (by have := hg.size; omega) (fun e => hf (.inl (by simpa using e))), hg.block b hb (fun e => hf (.inr (.inr (.inl e.symm))))]
  · rcases hb with rfl | rfl | hb | ⟨x, hx, hb⟩
    · exact .inl (.inl rfl)
    · exact .inl (.inr (.inl rfl))
    · rcases hv with hv | hv
      · exact .inl (.inr (.inr (.inl (by rw [← hv]; exact hb))))
      · exact .inr (hv b hb)
    · exact .inl (.inr (.inr (.inr ⟨x, hx, hb⟩)))
/-- A node more. -/
theorem TreeAt.storeN (h : TreeAt m t w) {nb nc : Nat} (hg : w.grownBy w' (some m.nb)) (hG : Grow NdT 2 ndCells 0 (.slice (some ⟨nb, 0, none⟩) (t.nodes.length + 1) nc) (m.N ++ [(nilS, nilS)]) w') (hv : nb = m.nb ∨ w.heap.size ≤ nb) :
    TreeAt { m with nb := nb, nc := nc, N := m.N ++ [(nilS, nilS)] } { t with nodes := t.nodes ++ [noNod] } (w'.setCell ⟨m.g, 0, none⟩ (.slice (some ⟨nb, 0, none⟩) (t.nodes.length + 1) nc)) ∧
      Stp m { m with nb := nb, nc := nc, N := m.N ++ [(nilS, nilS)] } w (w'.setCell ⟨m.g, 0, none⟩ (.slice (some ⟨nb, 0, none⟩) (t.nodes.length + 1) nc)) := by
  have hlen := h.len
  have hrowne : ∀ {T : TypeId}, T ≠ NdT → ∀ {b : Nat} {cs : Array Value}, w.heap[b]? = some (.cells cs T (0, 0)) → some m.nb ≠ some b := fun {T} hT {b cs} hb e => by
    simp only [Option.some.injEq] at e
    subst e
    obtain ⟨c1, e1⟩ := h.row.block rfl
    rw [hb] at e1
    simp only [Option.some.injEq, Obj.cells.injEq] at e1
    exact hT e1.2.1
  have htop' : BlkAt m.g TrT [.slice (some ⟨m.nb, 0, none⟩) t.nodes.length m.nc, m.fv, .int .i64 (t.root : Int), .int .i64 (t.many : Int)] w' := h.top.grown hg (fun e => hrowne (by decide) h.top e.symm)
  have hB := htop'.set 0 (.slice (some ⟨nb, 0, none⟩) (t.nodes.length + 1) nc)
  have hgN := grown_set w' m.g 0 (.slice (some ⟨nb, 0, none⟩) (t.nodes.length + 1) nc)
  have hne : ∀ {α : Type} {T : TypeId} {k : Nat} {enc : α → List Value} {v : Value} {L : List α}, Grow T k enc 0 v L w' → T ≠ TrT → ∀ b, v.ownBlock = some b → some m.g ≠ some b := fun hgr hT b hb e => by
    simp only [Option.some.injEq] at e
    subst e
    obtain ⟨c1, e1⟩ := hgr.block hb
    unfold BlkAt at htop'
    rw [htop'] at e1
    simp only [Option.some.injEq, Obj.cells.injEq] at e1
    exact hT e1.2.1.symm
  have hfree' := h.free.kept2 hg (fun b hb => by obtain ⟨c1, e1⟩ := h.free.block hb; exact hrowne (by decide) e1)
  have hps' : ∀ j (hj : j < m.N.length), Grow PrT 2 prCells 0 (m.N[j]).1 (t.nd j).ps w' := fun j hj => (h.ps j hj).kept2 hg (fun b hb => by obtain ⟨c1, e1⟩ := (h.ps j hj).block hb; exact hrowne (by decide) e1)
  have hks' : ∀ j (hj : j < m.N.length), Grow InT 1 inCells 0 (m.N[j]).2 (t.nd j).ks w' := fun j hj => (h.ks j hj).kept2 hg (fun b hb => by obtain ⟨c1, e1⟩ := (h.ks j hj).block hb; exact hrowne (by decide) e1)
  have hnd : ∀ j, j < t.nodes.length → ({ t with nodes := t.nodes ++ [noNod] } : Tr).nd j = t.nd j := fun j hj => by
    unfold Tr.nd
    simp only [List.getD_eq_getElem?_getD]
    rw [List.getElem?_append_left hj]
  have hndl : ({ t with nodes := t.nodes ++ [noNod] } : Tr).nd t.nodes.length = noNod := by unfold Tr.nd; simp
  have hel : ∀ j (hj : j < m.N.length) (hj2 : j < (m.N ++ [(nilS, nilS)]).length), (m.N ++ [(nilS, nilS)])[j] = m.N[j] := fun j hj hj2 => List.getElem_append_left hj
  have hlast : ∀ j (hj2 : j < (m.N ++ [(nilS, nilS)]).length), ¬ j < m.N.length → j = t.nodes.length ∧ (m.N ++ [(nilS, nilS)])[j] = (nilS, nilS) := fun j hj2 hn => by
    have : j = m.N.length := by simp at hj2; omega
    subst this
    exact ⟨hlen.symm, by simp⟩
  refine ⟨⟨?_, ?_, hfree'.kept2 hgN (hne hfree' (by decide)), fun j hj => ?_, fun j hj => ?_, fun a b ha hb c hab e1 => ?_, fun a b ha hb c hab e1 => ?_, fun a ha c e1 => ?_⟩, ⟨⟨hgN.os.trans hg.os, hgN.tape.trans hg.tape, hgN.output.trans hg.output, Nat.le_trans hg.size hgN.size, fun b hb hf => ?_⟩, fun b hb => ?_, rfl⟩⟩
  · simpa using hB
  · simp only [List.length_append, List.length_singleton]
    exact hG.kept2 hgN (hne hG (by decide))
  · by_cases hj2 : j < m.N.length
    · simp only [hel j hj2]; rw [hnd j (by omega)]; exact (hps' j hj2).kept2 hgN (hne (hps' j hj2) (by decide))
    · obtain ⟨e1, e2⟩ := hlast j hj hj2
      simp only [e2]
      rw [e1, hndl]; exact Grow.nil _
  · by_cases hj2 : j < m.N.length
    · simp only [hel j hj2]; rw [hnd j (by omega)]; exact (hks' j hj2).kept2 hgN (hne (hks' j hj2) (by decide))
    · obtain ⟨e1, e2⟩ := hlast j hj hj2
      simp only [e2]
      rw [e1, hndl]; exact Grow.nil _
  · by_cases ha2 : a < m.N.length
    · simp only [hel a ha2] at e1
      by_cases hb2 : b < m.N.length
      · simp only [hel b hb2]; exact h.psep a b ha2 hb2 c hab e1
      · simp only [(hlast b hb hb2).2]; exact fun e => by cases e
    · simp only [(hlast a ha ha2).2] at e1; cases e1
  · by_cases ha2 : a < m.N.length
    · simp only [hel a ha2] at e1
      by_cases hb2 : b < m.N.length
      · simp only [hel b hb2]; exact h.ksep a b ha2 hb2 c hab e1
      · simp only [(hlast b hb hb2).2]; exact fun e => by cases e
    · simp only [(hlast a ha ha2).2] at e1; cases e1
  · by_cases ha2 : a < m.N.length
    · simp only [hel a ha2] at e1
      exact h.fsep a ha2 c e1
    · simp only [(hlast a ha ha2).2] at e1; cases e1
  · rw [hgN.block b (by have := hg.size; omega) (fun e => hf (.inl (by simpa using e))), hg.block b hb (fun e => hf (.inr (.inl (by simpa using e))))]
  · rcases hb with rfl | rfl | hb | ⟨x, hx, hb⟩
    · exact .inl (.inl rfl)
    · rcases hv with hv | hv
      · exact .inl (.inr (.inl hv))
      · exact .inr hv
    · exact .inl (.inr (.inr (.inl hb)))
    · rcases List.mem_append.1 hx with hx | hx
      · exact .inl (.inr (.inr (.inr ⟨x, hx, hb⟩)))
      · rw [List.mem_singleton.1 hx] at hb
        rcases hb with hb | hb <;> cases hb
/-- A node emptied. -/
theorem TreeAt.clear (h : TreeAt m t w) (hi : i < m.N.length) : TreeAt { m with N := m.N.set i (nilS, nilS) } (t.put i noNod) (w.setCells m.nb (i * 2) [nilS, nilS]) ∧ Stp m { m with N := m.N.set i (nilS, nilS) } w (w.setCells m.nb (i * 2) [nilS, nilS]) := by
  have hlen := h.len
  have hit : i < t.nodes.length := by omega
  obtain ⟨hN, hgN⟩ := h.row.stores ndCells_len i hi (nilS, nilS) [nilS, nilS] rfl
  have hnb : ∀ {T : TypeId}, T ≠ NdT → ∀ {b : Nat} {cs : Array Value}, w.heap[b]? = some (.cells cs T (0, 0)) → some m.nb ≠ some b := fun {T} hT {b cs} hb e => by
    simp only [Option.some.injEq] at e
    subst e
    obtain ⟨c1, e1⟩ := h.row.block rfl
    rw [hb] at e1
    simp only [Option.some.injEq, Obj.cells.injEq] at e1
    exact hT e1.2.1
  have hNl : (m.N.set i (nilS, nilS)).length = m.N.length := List.length_set
  have hg1 : ∀ j (hj : j < (m.N.set i (nilS, nilS)).length) (hj2 : j < m.N.length), j ≠ i → (m.N.set i (nilS, nilS))[j] = m.N[j] := fun j hj hj2 hne => List.getElem_set_ne (Ne.symm hne) _
  have hg2 : ∀ (hj : i < (m.N.set i (nilS, nilS)).length), (m.N.set i (nilS, nilS))[i] = (nilS, nilS) := fun hj => List.getElem_set_self _
  refine ⟨⟨?_, ?_, ?_, fun j hj => ?_, fun j hj => ?_, fun a b ha hb c hab e1 => ?_, fun a b ha hb c hab e1 => ?_, fun a ha c e1 => ?_⟩, ⟨⟨hgN.os, hgN.tape, hgN.output, hgN.size, fun b hb hf => hgN.block b hb (fun e => hf (.inr (.inl (by simpa using e))))⟩, fun b hb => ?_, rfl⟩⟩
  · rw [put_len]; exact h.top.grown hgN (fun e => hnb (by decide) h.top e.symm)
  · rw [put_len]; exact hN
  · exact h.free.kept2 hgN (fun b hb => by obtain ⟨c1, e1⟩ := h.free.block hb; exact hnb (by decide) e1)
  · simp only at hj
    have hj2 : j < m.N.length := by omega
    by_cases e : j = i
    · subst e
      simp only [hg2 hj]
      rw [nd_put_same hit]; exact Grow.nil _
    · simp only [hg1 j hj hj2 e]
      rw [nd_put_ne e]
      exact (h.ps j hj2).kept2 hgN (fun b hb => by obtain ⟨c1, e1⟩ := (h.ps j hj2).block hb; exact hnb (by decide) e1)
  · simp only at hj
    have hj2 : j < m.N.length := by omega
    by_cases e : j = i
    · subst e
      simp only [hg2 hj]
      rw [nd_put_same hit]; exact Grow.nil _
    · simp only [hg1 j hj hj2 e]
      rw [nd_put_ne e]
      exact (h.ks j hj2).kept2 hgN (fun b hb => by obtain ⟨c1, e1⟩ := (h.ks j hj2).block hb; exact hnb (by decide) e1)
  · simp only at ha hb
    have ha2 : a < m.N.length := by omega
    have hb2 : b < m.N.length := by omega
    by_cases ea : a = i
    · subst ea; simp only [hg2 ha] at e1; cases e1
    · simp only [hg1 a ha ha2 ea] at e1
      by_cases eb : b = i
      · subst eb; simp only [hg2 hb]; exact fun e => by cases e
      · simp only [hg1 b hb hb2 eb]; exact h.psep a b ha2 hb2 c hab e1
  · simp only at ha hb
    have ha2 : a < m.N.length := by omega
    have hb2 : b < m.N.length := by omega
    by_cases ea : a = i
    · subst ea; simp only [hg2 ha] at e1; cases e1
    · simp only [hg1 a ha ha2 ea] at e1
      by_cases eb : b = i
      · subst eb; simp only [hg2 hb]; exact fun e => by cases e
      · simp only [hg1 b hb hb2 eb]; exact h.ksep a b ha2 hb2 c hab e1
  · simp only at ha
    have ha2 : a < m.N.length := by omega
    by_cases ea : a = i
    · subst ea; simp only [hg2 ha] at e1; cases e1
    · simp only [hg1 a ha ha2 ea] at e1
      exact h.fsep a ha2 c e1
  · rcases hb with rfl | rfl | hb | ⟨x, hx, hb⟩
    · exact .inl (.inl rfl)
    · exact .inl (.inr (.inl rfl))
    · exact .inl (.inr (.inr (.inl hb)))
    · rcases List.mem_or_eq_of_mem_set hx with hx | rfl
      · exact .inl (.inr (.inr (.inr ⟨x, hx, hb⟩)))
      · rcases hb with hb | hb <;> cases hb
end
end Go.Proofs.Yteoibolompiohaa
