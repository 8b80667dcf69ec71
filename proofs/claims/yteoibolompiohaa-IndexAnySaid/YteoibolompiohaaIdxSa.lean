/- The tree's calls, by what is in it. Conditions: as each theorem says. -/
import Derived.Test.YteoibolompiohaaIdxRb
namespace Go.Proofs.Yteoibolompiohaa
open Go.RowKit

/-- A tree in memory that has these pairs; it had no more than 'hi'; it lies from B on. -/
structure Tree (B hi : Nat) (m : Mem) (C : List Pr) (w : World) : Prop where
  out : ∃ t d, TreeAt m t w ∧ t.wf d hi ∧ d ≤ 3 ∧ t.cont d t.root = C
  fresh : ∀ b, m.foot b → B ≤ b
  few : hi ≤ 1000
def NewSaid (w : World) (e : Ending) (w' : World) : Prop := ∃ m, e = .returned (ptrV m.g) ∧ Tree w.heap.size 0 m [] w' ∧ Below w.heap.size w w'
theorem new_tree (w : World) : TreeAt ⟨w.heap.size + 1, w.heap.size, 1, nilS, [(nilS, nilS)]⟩ newTr ((w.alloc (.cells #[nilS, nilS] NdT)).alloc (.cells #[.slice (some ⟨w.heap.size, 0, none⟩) 1 1, nilS, .int .i64 0, .int .i64 0] TrT)) := by
  have hN : Grow NdT 2 ndCells 0 (.slice (some ⟨w.heap.size, 0, none⟩) 1 1) [(nilS, nilS)] (w.alloc (.cells #[nilS, nilS] NdT)) :=
    ⟨rfl, .inr ⟨w.heap.size, 1, _, rfl, Nat.zero_le _, heap_alloc_new w _, Nat.le_refl _, by decide, rfl, rfl⟩⟩
  have hb := alloc_below (w.alloc (.cells #[nilS, nilS] NdT)) (.cells #[.slice (some ⟨w.heap.size, 0, none⟩) 1 1, nilS, .int .i64 0, .int .i64 0] TrT)
  refine ⟨?_, hN.below hb, Grow.nil _, fun i hi => ?_, fun i hi => ?_, fun i j hi hj b hij => ?_, fun i j hi hj b hij => ?_, fun i hi b => ?_⟩
  · have := BlkAt.alloc_new (w.alloc (.cells #[nilS, nilS] NdT)) [.slice (some ⟨w.heap.size, 0, none⟩) 1 1, nilS, .int .i64 0, .int .i64 0] TrT
    rw [World.size_alloc] at this
    exact this
  all_goals
    simp only [List.length_singleton] at hi
    obtain rfl : i = 0 := by omega
  · exact Grow.nil _
  · exact Grow.nil _
  · simp only [List.length_singleton] at hj; omega
  · simp only [List.length_singleton] at hj; omega
  · intro e; cases e
set_option maxRecDepth 100000 in
set_option maxHeartbeats 1000000 in
theorem new_any (w : World) : Calls Try.prog 10 #[] w (NewSaid w) := by
  have HT := Lib.hid (new_tree w)
  have hB : Below w.heap.size w ((w.alloc (.cells #[nilS, nilS] NdT)).alloc (.cells #[.slice (some ⟨w.heap.size, 0, none⟩) 1 1, nilS, .int .i64 0, .int .i64 0] TrT)) := ((Below.refl _ w).alloc (Nat.le_refl _) _).alloc (by simp) _
  have HB := Lib.hid hB
  have hmk : (Instr.makeSlice 57 (.int .i64 1) (.int .i64 1)).run Try.prog w = .ok (.slice (some ⟨w.heap.size, 0, none⟩) 1 1) (w.alloc (.cells #[nilS, nilS] NdT)) :=
    (make_run (P := Try.prog) (w := w) (k := 2) (enc := ndCells) 57 Try.underlying57 (.agg #[.slice none 0 0, .slice none 0 0]) 48 infoNd (nilS, nilS) rfl ndCells_len 1 (by omega) (by omega) 0 (by omega)).1
  clear hB
  go_enter Try.func10, Try.ntmps10
  go_wp2
  go_ret
  refine ⟨_, ?_, ⟨⟨newTr, 0, HT.out, new_wf, by omega, rfl⟩, fun b hb => ?_, by omega⟩, HB.out⟩
  · simp [ptrV]
  · rcases hb with rfl | rfl | hb | ⟨x, hx, hb⟩
    · show w.heap.size ≤ w.heap.size + 1; omega
    · exact Nat.le_refl _
    · cases hb
    · rw [List.mem_singleton.1 hx] at hb
      rcases hb with hb | hb <;> cases hb
section
variable {m : Mem} {w : World} {B hi : Nat} {C : List Pr}
theorem Tree.grew {w' : World} (h : Tree B hi m C w) (hb : Below w.heap.size w w') : Tree B hi m C w' := by
  obtain ⟨⟨t, d, h1, h2, h3, h4⟩, h5, h6⟩ := h
  exact ⟨⟨t, d, h1.grew hb, h2, h3, h4⟩, h5, h6⟩
theorem Tree.len (h : Tree B hi m C w) : C.length ≤ hi := by
  obtain ⟨⟨t, d, h1, h2, h3, rfl⟩, h5, h6⟩ := h
  rw [← h2.many]; exact h2.most
theorem Tree.sorted (h : Tree B hi m C w) : SortedK C := by
  obtain ⟨⟨t, d, h1, h2, h3, rfl⟩, h5, h6⟩ := h
  exact h2.sorted
theorem Tree.mono {B' : Nat} (h : Tree B hi m C w) (hb : B' ≤ B) : Tree B' hi m C w := ⟨h.out, fun b hb' => Nat.le_trans hb (h.fresh b hb'), h.few⟩
theorem wf_nodes {t : Tr} {d hi : Nat} (h : t.wf d hi) (hh : hi ≤ 1000) : t.nodes.length ≤ 251 ∧ t.free.length ≤ 251 ∧ t.many ≤ 1000 := by
  have := h.few
  have := h.most
  have := good_free h.good
  have := h.all
  omega
/-- A row that is no part of a tree, by its type. -/
theorem Stp.grow {α : Type} {T : TypeId} {k : Nat} {enc : α → List Value} {base : Nat} {v : Value} {L : List α} {m m' : Mem} {t : Tr} {w w' : World} (s : Stp m m' w w') (h : TreeAt m t w) (hG : Grow T k enc base v L w) (h1 : T ≠ TrT) (h2 : T ≠ NdT) (h3 : T ≠ PrT) (h4 : T ≠ InT) : Grow T k enc base v L w' := by
  refine ⟨hG.1, ?_⟩
  rcases hG.2 with h' | ⟨g, cap, cur, he, hb, hh, r⟩
  · exact .inl h'
  · refine .inr ⟨g, cap, cur, he, hb, ?_, r⟩
    rw [s.apart.block g (Array.getElem?_eq_some_iff.1 hh).1 (fun hf => ?_)]
    · exact hh
    have hne : ∀ {T' : TypeId} {cs : Array Value}, T ≠ T' → w.heap[g]? = some (.cells cs T' (0, 0)) → False := fun {T' cs} hT e => by
      rw [hh] at e
      simp only [Option.some.injEq, Obj.cells.injEq] at e
      exact hT e.2.1
    rcases hf with rfl | rfl | hf | ⟨x, hx, hf⟩
    · exact hne h1 h.top
    · obtain ⟨c, e⟩ := h.row.block rfl
      exact hne h2 e
    · obtain ⟨c, e⟩ := h.free.block hf
      exact hne h4 e
    · obtain ⟨i, hi, rfl⟩ := List.getElem_of_mem hx
      rcases hf with hf | hf
      · obtain ⟨c, e⟩ := (h.ps i hi).block hf
        exact hne h3 e
      · obtain ⟨c, e⟩ := (h.ks i hi).block hf
        exact hne h4 e
/-- What a call that may change the tree comes to: rows of other types stay. -/
structure Turned (B : Nat) (m m' : Mem) (w w' : World) : Prop where
  below : B ≤ w.heap.size → Below B w w'
  g : m'.g = m.g
  row : ∀ {α : Type} {T : TypeId} {k : Nat} {enc : α → List Value} {base : Nat} {v : Value} {L : List α}, Grow T k enc base v L w → T ≠ TrT → T ≠ NdT → T ≠ PrT → T ≠ InT → Grow T k enc base v L w'
  size : w.heap.size ≤ w'.heap.size
  far : ∀ b, b < w.heap.size → ¬ m.foot b → w'.heap[b]? = w.heap[b]? ∧ ¬ m'.foot b
theorem Turned.of_stp {m m' : Mem} {t : Tr} {w w' : World} (s : Stp m m' w w') (h : TreeAt m t w) (hf : ∀ b, m.foot b → B ≤ b) : Turned B m m' w w' :=
  ⟨fun hb => s.apart.below hb hf, s.g, fun hG => s.grow h hG, s.apart.size, fun b hb hn => ⟨s.apart.block b hb hn, fun h' => by
    rcases s.foot b h' with h1 | h1
    · exact hn h1
    · omega⟩⟩
theorem Turned.of_below {m : Mem} {w w' : World} (h : Below w.heap.size w w') : Turned B m m w w' := ⟨fun hb => h.mono hb, rfl, fun hG _ _ _ _ => Grow.below hG h, h.size, fun b hb hn => ⟨h.block b hb, hn⟩⟩
theorem Turned.trans {m m1 m2 : Mem} {w w1 w2 : World} (h : Turned B m m1 w w1) (k : Turned B m1 m2 w1 w2) : Turned B m m2 w w2 :=
  ⟨fun hb => (h.below hb).trans (k.below (Nat.le_trans hb h.size)), k.g.trans h.g, fun hG a b c d => k.row (h.row hG a b c d) a b c d, Nat.le_trans h.size k.size, fun b hb hn => by
    obtain ⟨h1, h2⟩ := h.far b hb hn
    obtain ⟨k1, k2⟩ := k.far b (Nat.lt_of_lt_of_le hb h.size) h2
    exact ⟨k1.trans h1, k2⟩⟩
/-- A row that is no part of the tree stays, and is none then. -/
theorem Turned.keep {α : Type} {T : TypeId} {k : Nat} {enc : α → List Value} {base : Nat} {v : Value} {L : List α} {m m' : Mem} {w w' : World} (s : Turned B m m' w w') (hG : Grow T k enc base v L w) (hn : ∀ b, v.ownBlock = some b → ¬ m.foot b) : Grow T k enc base v L w' ∧ ∀ b, v.ownBlock = some b → ¬ m'.foot b := by
  refine ⟨⟨hG.1, ?_⟩, fun b hb => (s.far b (hG.ltb hb) (hn b hb)).2⟩
  rcases hG.2 with h' | ⟨g, cap, cur, he, hb, hh, r⟩
  · exact .inl h'
  · refine .inr ⟨g, cap, cur, he, hb, ?_, r⟩
    rw [(s.far g (Array.getElem?_eq_some_iff.1 hh).1 (hn g (by rw [he]; rfl))).1]
    exact hh
theorem Tree.away {F : Nat → Prop} {w' : World} (h : Tree B hi m C w) (ha : Apart F w w') (hF : ∀ b, F b → ¬ m.foot b) : Tree B hi m C w' := by
  obtain ⟨⟨t, d, h1, h2, h3, h4⟩, h5, h6⟩ := h
  exact ⟨⟨t, d, h1.away ha hF, h2, h3, h4⟩, h5, h6⟩
theorem Tree.foot_lt (h : Tree B hi m C w) {b : Nat} (hb : m.foot b) : b < w.heap.size := by
  obtain ⟨⟨t, d, h1, h2, h3, h4⟩, h5, h6⟩ := h
  exact h1.foot_lt hb
/-- A row made behind the tree is none of it. -/
theorem Tree.apart {α : Type} {T : TypeId} {k : Nat} {enc : α → List Value} {v : Value} {L : List α} {w' : World} (h : Tree B hi m C w) (hG : Grow T k enc w.heap.size v L w') : ∀ b, v.ownBlock = some b → ¬ m.foot b := fun b hb hf => by
  have := h.foot_lt hf
  have := own_base hG b hb
  omega
def SetGot (B hi : Nat) (m : Mem) (C : List Pr) (k : Key) (n : Int) (w : World) (e : Ending) (w' : World) : Prop :=
  ∃ m', e = .returned (.tuple #[.int .i64 (numF C k), .bool (hasF C k)]) ∧ Tree B (max hi (insF C k n).length) m' (insF C k n) w' ∧ Turned B m m' w w'
def DelGot (B hi : Nat) (m : Mem) (C : List Pr) (k : Key) (w : World) (e : Ending) (w' : World) : Prop :=
  ∃ m', e = .returned (.tuple #[.int .i64 (numF C k), .bool (hasF C k)]) ∧ Tree B hi m' (delF C k) w' ∧ Turned B m m' w w'
theorem ins_mem {C : List Pr} {k : Key} {n : Int} {p : Pr} (h : p ∈ insF C k n) : p = (k, n) ∨ p ∈ C := by
  unfold insF at h
  rcases List.mem_append.1 h with h | h
  · exact .inr (List.mem_of_mem_take h)
  · rcases List.mem_cons.1 h with h | h
    · exact .inl h
    · exact .inr (List.mem_of_mem_drop h)
theorem del_mem {C : List Pr} {k : Key} {p : Pr} (h : p ∈ delF C k) : p ∈ C := by
  unfold delF at h
  split at h
  · exact (cutL_sub _ _).subset h
  · exact h
theorem tree_set (h : Tree B hi m C w) (k : Key) (n : Int) (hh : hi + 1 ≤ 1000) : Calls Try.prog 21 #[ptrV m.g, .string (bs k), .int .i64 n] w (SetGot B hi m C k n w) := by
  have hle := h.len
  obtain ⟨⟨t, d, h1, h2, h3, rfl⟩, h5, h6⟩ := h
  obtain ⟨n1, n2, n3⟩ := wf_nodes h2 h6
  obtain ⟨t', e, d', q1, q2, q3⟩ := set_whole h2 (by omega) k n
  obtain ⟨d', q1, q2, q3⟩ : ∃ d', t'.wf d' (max hi t'.many) ∧ t'.cont d' t'.root = insF (t.cont d t.root) k n ∧ d' ≤ d + 1 := ⟨d', q1, q2, q3⟩
  refine (set_any h1 h2 (by omega) (by omega) (by omega) k n t' _ _ e).mono ?_
  rintro e w' ⟨m', rfl, T, U⟩
  have hlen : t'.many = (insF (t.cont d t.root) k n).length := by rw [q1.many, q2]
  have hil : (insF (t.cont d t.root) k n).length ≤ (t.cont d t.root).length + 1 := by rw [insF_length]; split <;> omega
  refine ⟨m', rfl, ⟨⟨t', d', T, by rw [← hlen]; exact q1, wf_depth q1 (by omega), q2⟩, fun b hb => ?_, by omega⟩, Turned.of_stp U h1 h5⟩
  · rcases U.foot b hb with h' | h'
    · exact h5 b h'
    · have := h5 _ (.inl rfl)
      have := h1.g_lt
      omega
theorem tree_del (h : Tree B hi m C w) (k : Key) : Calls Try.prog 22 #[ptrV m.g, .string (bs k)] w (DelGot B hi m C k w) := by
  obtain ⟨⟨t, d, h1, h2, h3, rfl⟩, h5, h6⟩ := h
  obtain ⟨n1, n2, n3⟩ := wf_nodes h2 h6
  obtain ⟨t', d', q1, q2, q3, hc⟩ := del_any h1 h2 (by omega) (by omega) (by omega) k
  refine hc.mono ?_
  rintro e w' ⟨m', rfl, T, U⟩
  refine ⟨m', rfl, ⟨⟨t', d', T, q1, by omega, q2⟩, fun b hb => ?_, h6⟩, Turned.of_stp U h1 h5⟩
  rcases U.foot b hb with h' | h'
  · exact h5 b h'
  · have := h5 _ (.inl rfl)
    have := h1.g_lt
    omega
theorem tree_get (h : Tree B hi m C w) (k : Key) : Calls Try.prog 19 #[ptrV m.g, .string (bs k)] w fun e w' => e = .returned (.tuple #[.int .i64 (numF C k), .bool (hasF C k)]) ∧ Below w.heap.size w w' := by
  obtain ⟨⟨t, d, h1, h2, h3, rfl⟩, h5, h6⟩ := h
  obtain ⟨n1, n2, n3⟩ := wf_nodes h2 h6
  have := get_any h1 (by omega) d h2.good.ok k
  rw [get_law d t.root k h2.good h2.sorted _ (Nat.le_refl _)] at this
  exact this
theorem tree_len (h : Tree B hi m C w) : Calls Try.prog 20 #[ptrV m.g] w fun e w' => e = .returned (.int .i64 (C.length : Int)) ∧ w = w' := by
  obtain ⟨⟨t, d, h1, h2, h3, rfl⟩, h5, h6⟩ := h
  rw [← h2.many]
  exact len_any h1
def NodesGot (hi : Nat) (C : List Pr) (w : World) (e : Ending) (w' : World) : Prop := ∃ used all : Nat, e = .returned (.tuple #[.int .i64 (used : Int), .int .i64 (all : Int)]) ∧ 1 ≤ used ∧ used ≤ all ∧ 4 * (used - 1) ≤ C.length ∧ 4 * (all - 1) ≤ hi ∧ Below w.heap.size w w'
theorem tree_nodes (h : Tree B hi m C w) : Calls Try.prog 25 #[ptrV m.g] w (NodesGot hi C w) := by
  obtain ⟨⟨t, d, h1, h2, h3, rfl⟩, h5, h6⟩ := h
  obtain ⟨n1, n2, n3⟩ := wf_nodes h2 h6
  refine (nodes_any h1 (by omega) (good_free h2.good)).mono ?_
  rintro e w' ⟨rfl, hb⟩
  have ha := h2.all
  have hi1 := root_ids h2.good.ok
  have hi2 : 1 ≤ (t.ids d t.root).length := by rw [ids_eq]; simp
  have := h2.few
  exact ⟨_, _, rfl, by omega, by omega, by omega, by omega, hb⟩
def DepthGot (C : List Pr) (w : World) (e : Ending) (w' : World) : Prop := ∃ d : Nat, e = .returned (.int .i64 ((d + 1 : Nat) : Int)) ∧ d ≤ 3 ∧ (d ≠ 0 → 2 * 5 ^ d ≤ C.length + 1) ∧ C.length + 1 ≤ 10 ^ (d + 1) ∧ w = w'
theorem tree_depth (h : Tree B hi m C w) : Calls Try.prog 26 #[ptrV m.g] w (DepthGot C w) := by
  obtain ⟨⟨t, d, h1, h2, h3, rfl⟩, h5, h6⟩ := h
  obtain ⟨n1, n2, n3⟩ := wf_nodes h2 h6
  refine (depth_any h1 (by omega) d h2.good.ok (by omega)).mono ?_
  rintro e w' ⟨rfl, rfl⟩
  refine ⟨d, rfl, h3, fun hd => ?_, high_pow d t.root h2.good.ok, rfl⟩
  cases d with
  | zero => exact absurd rfl hd
  | succ d => exact root_pow h2.good.ok (h2.top (by omega))
theorem tree_right (h : Tree B hi m C w) (hl : ∀ p ∈ C, p.1.length ≤ 1000000000000000000) : Calls Try.prog 23 #[ptrV m.g] w (RightSaid w) := by
  obtain ⟨⟨t, d, h1, h2, h3, rfl⟩, h5, h6⟩ := h
  obtain ⟨n1, n2, n3⟩ := wf_nodes h2 h6
  exact Right_any h1 (by omega) h2 (by omega) hl
theorem tree_next (h : Tree B hi m C w) (k : Key) : Calls Try.prog 16 #[ptrV m.g, .string (bs k)] w (NextSaid w (C.drop (spotF C k))) := by
  obtain ⟨⟨t, d, h1, h2, h3, rfl⟩, h5, h6⟩ := h
  obtain ⟨n1, n2, n3⟩ := wf_nodes h2 h6
  exact next_any _ k _ w (all_stops h1 (by omega) d h2.good.ok h2.sorted k)
theorem tree_range (h : Tree B hi m C w) (k tk : Key) (most : Int) : Calls Try.prog 13 #[ptrV m.g, .string (bs k), .string (bs tk), .int .i64 most] w (RangeSaid w (rngL (C.drop (spotF C k)) tk most)) := by
  have hle := h.len
  obtain ⟨⟨t, d, h1, h2, h3, rfl⟩, h5, h6⟩ := h
  obtain ⟨n1, n2, n3⟩ := wf_nodes h2 h6
  exact range_any _ k tk most _ w (all_stops h1 (by omega) d h2.good.ok h2.sorted k) (by simp; omega)
end
end Go.Proofs.Yteoibolompiohaa
