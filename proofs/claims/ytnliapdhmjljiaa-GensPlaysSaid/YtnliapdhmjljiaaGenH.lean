/- A key in memory: its block, its generations' row, the rows of their puts; what a call on it leaves alone. Conditions: as each theorem says. -/
import Derived.Test.YtnliapdhmjljiaaGenV
import Derived.Test.YtnliapdhmjljiaaSets
import Derived.Test.YtnliapdhmjljiaaRows
import Derived.Lib.SliceRun
namespace Go.Proofs.Ytnliapdhmjljiaa
open Go.RowKit

abbrev KeyT : TypeId := 60
abbrev GnT : TypeId := 68
abbrev IntT : TypeId := 3
/-- Only blocks of a footprint may have changed, and new ones come. -/
structure Apart (F : Nat → Prop) (a b : World) : Prop where
  os : b.os = a.os
  tape : b.tape = a.tape
  output : b.output = a.output
  size : a.heap.size ≤ b.heap.size
  block : ∀ i, i < a.heap.size → ¬ F i → b.heap[i]? = a.heap[i]?
theorem Apart.refl (F : Nat → Prop) (w : World) : Apart F w w := ⟨rfl, rfl, rfl, Nat.le_refl _, fun _ _ _ => rfl⟩
theorem Apart.trans {F G : Nat → Prop} {a b c : World} (h : Apart F a b) (k : Apart G b c) (hG : ∀ i, G i → F i ∨ a.heap.size ≤ i) : Apart F a c :=
  ⟨k.os.trans h.os, k.tape.trans h.tape, k.output.trans h.output, Nat.le_trans h.size k.size, fun i hi hF => (k.block i (Nat.lt_of_lt_of_le hi h.size) (fun hg => by rcases hG i hg with h1 | h1; exact hF h1; omega)).trans (h.block i hi hF)⟩
theorem Apart.of_below {F : Nat → Prop} {a b : World} (h : Below a.heap.size a b) : Apart F a b := ⟨h.os, h.tape, h.output, h.size, fun i hi _ => h.block i hi⟩
theorem Apart.of_grown {F : Nat → Prop} {a b : World} {row : Option Nat} (h : a.grownBy b row) (hr : ∀ g, row = some g → F g ∨ a.heap.size ≤ g) : Apart F a b :=
  ⟨h.os, h.tape, h.output, h.size, fun i hi hF => h.block i hi (fun e => by rcases hr i e.symm with h1 | h1; exact hF h1; omega)⟩
theorem Apart.mono {F G : Nat → Prop} {a b : World} (h : Apart F a b) (hFG : ∀ i, F i → G i) : Apart G a b := ⟨h.os, h.tape, h.output, h.size, fun i hi hG => h.block i hi (fun hf => hG (hFG i hf))⟩
theorem Apart.below {F : Nat → Prop} {n : Nat} {a b : World} (h : Apart F a b) (hn : n ≤ a.heap.size) (hF : ∀ i, F i → n ≤ i) : Below n a b :=
  ⟨h.os, h.tape, h.output, h.size, fun i hi => h.block i (Nat.lt_of_lt_of_le hi hn) (fun hf => by have := hF i hf; omega)⟩
theorem Apart.blk {F : Nat → Prop} {a b : World} (h : Apart F a b) {g : Nat} {T : TypeId} {cs : List Value} (hb : BlkAt g T cs a) (hg : ¬ F g) : BlkAt g T cs b := by
  have hl := BlkAt.lt hb
  unfold BlkAt at *
  rw [h.block g hl hg]; exact hb
/-- The slice value v reads as the numbers l: nil, or cells of a block of numbers, with its capacity in it. -/
def PutsAt (w : World) (v : Value) (l : List Int) : Prop :=
  (v = .slice none 0 0 ∧ l = []) ∨ ∃ (b o c : Nat) (cur : Array Value), v = .slice (some ⟨b, o, none⟩) l.length c ∧ w.heap[b]? = some (.cells cur IntT (0, 0)) ∧ o + c ≤ cur.size ∧ l.length ≤ c ∧ c ≤ maxLen ∧ ∀ j (hj : j < l.length), cur[o + j]? = some (.int .i64 l[j])
theorem PutsAt.lt {w : World} {v : Value} {l : List Int} (h : PutsAt w v l) {b : Nat} (hb : v.ownBlock = some b) : b < w.heap.size := by
  rcases h with ⟨rfl, _⟩ | ⟨b', o, c, cur, rfl, h1, _⟩
  · simp [Value.ownBlock] at hb
  · simp only [Value.ownBlock, Option.some.injEq] at hb
    subst hb
    exact (Array.getElem?_eq_some_iff.1 h1).1
theorem PutsAt.kept {w w' : World} {v : Value} {l : List Int} (h : PutsAt w v l) (hb : ∀ b, v.ownBlock = some b → w'.heap[b]? = w.heap[b]?) : PutsAt w' v l := by
  rcases h with h | ⟨b, o, c, cur, rfl, h1, h2⟩
  · exact .inl h
  · exact .inr ⟨b, o, c, cur, rfl, by rw [hb b rfl]; exact h1, h2⟩
def gnCells (g : Gn) (v : Value) : List Value := [.int .i64 g.cr, .int .i64 g.cut, v, .int .i64 g.fin]
def gnRow (gs : List Gn) (ps : List Value) : List Value := (List.zipWith gnCells gs ps).flatten
theorem gnRow_length : ∀ (gs : List Gn) (ps : List Value), ps.length = gs.length → (gnRow gs ps).length = gs.length * 4 := by
  intro gs
  induction gs with
  | nil => intro ps _; cases ps <;> rfl
  | cons g gs ih =>
    intro ps h
    cases ps with
    | nil => simp at h
    | cons p ps =>
      have := ih ps (by simpa using h)
      simp only [gnRow, List.zipWith_cons_cons, List.flatten_cons, List.length_append, List.length_cons] at this ⊢
      simp only [gnCells, List.length_cons, List.length_nil]
      omega
theorem gnRow_get : ∀ (gs : List Gn) (ps : List Value) (i j : Nat) (h1 : i < gs.length) (h2 : i < ps.length), j < 4 → (gnRow gs ps)[i * 4 + j]? = (gnCells gs[i] ps[i])[j]? := by
  intro gs
  induction gs with
  | nil => intro ps i j h1; simp at h1
  | cons g gs ih =>
    intro ps i j h1 h2 hj
    cases ps with
    | nil => simp at h2
    | cons p ps =>
      show ((gnCells g p) ++ gnRow gs ps)[i * 4 + j]? = _
      cases i with
      | zero =>
        rw [List.getElem?_append_left (by simp [gnCells]; omega)]
        simp
      | succ i =>
        rw [List.getElem?_append_right (by simp [gnCells]; omega)]
        have := ih ps i j (by simpa using h1) (by simpa using h2) hj
        simp only [List.getElem_cons_succ]
        rw [← this]
        congr 1
        simp [gnCells]; omega
/-- A key at block kb: u is its generations' slice, ps where their puts lie, F the blocks that are its own. -/
structure KeyAt (F : Nat → Prop) (kb : Nat) (s : Ks) (u : Value) (ps : List Value) (w : World) : Prop where
  key : BlkAt kb KeyT [u, .int .i64 s.last] w
  row : w.ownsRow 0 GnT 4 u s.gs.length (gnRow s.gs ps)
  len : ps.length = s.gs.length
  puts : ∀ i (h1 : i < s.gs.length) (h2 : i < ps.length), PutsAt w ps[i] s.gs[i].puts
  kF : F kb
  uF : ∀ g, u.ownBlock = some g → F g ∧ g ≠ kb
  pF : ∀ v ∈ ps, ∀ b, v.ownBlock = some b → F b ∧ b ≠ kb ∧ u.ownBlock ≠ some b
  nod : ∀ (i j b : Nat), (ps[i]?.bind Value.ownBlock) = some b → (ps[j]?.bind Value.ownBlock) = some b → i = j
  lt : ∀ b, F b → b < w.heap.size
def KeyIn (F : Nat → Prop) (kb : Nat) (s : Ks) (w : World) : Prop := ∃ u ps, KeyAt F kb s u ps w
/-- The footprint behind a call: what was its own, and what is new. -/
def Foot (F : Nat → Prop) (w w' : World) : Nat → Prop := fun b => F b ∨ (w.heap.size ≤ b ∧ b < w'.heap.size)
section
variable {F : Nat → Prop} {kb : Nat} {s : Ks} {u : Value} {ps : List Value} {w w' : World}
theorem ownsRow_kept {w w' : World} {base e size n : Nat} {v : Value} {xs : List Value} (h : w.ownsRow base e size v n xs) (hb : ∀ g, v.ownBlock = some g → w'.heap[g]? = w.heap[g]?) : w'.ownsRow base e size v n xs := by
  refine ⟨h.1, ?_⟩
  rcases h.2 with h2 | ⟨g, cap, cur, hv, hg, hh, r⟩
  · exact .inl h2
  · exact .inr ⟨g, cap, cur, hv, hg, by rw [hb g (by rw [hv]; rfl)]; exact hh, r⟩
/-- What leaves the key's blocks alone leaves the key. -/
theorem KeyAt.kept (h : KeyAt F kb s u ps w) (hb : ∀ i, F i → w'.heap[i]? = w.heap[i]?) (hs : w.heap.size ≤ w'.heap.size) : KeyAt F kb s u ps w' := by
  refine ⟨?_, ownsRow_kept h.row (fun g hg => hb g (h.uF g hg).1), h.len, fun i h1 h2 => (h.puts i h1 h2).kept (fun b e => hb b (h.pF _ (List.getElem_mem h2) b e).1), h.kF, h.uF, h.pF, h.nod, fun b hF => Nat.lt_of_lt_of_le (h.lt b hF) hs⟩
  have := h.key
  unfold BlkAt at this ⊢
  rw [hb kb h.kF]; exact this
theorem KeyAt.grew (h : KeyAt F kb s u ps w) (hb : Below w.heap.size w w') : KeyAt F kb s u ps w' := h.kept (fun i hF => hb.block i (h.lt i hF)) hb.size
theorem KeyAt.apart {G : Nat → Prop} (h : KeyAt F kb s u ps w) (hb : Apart G w w') (hG : ∀ i, G i → ¬ F i) : KeyAt F kb s u ps w' := h.kept (fun i hF => hb.block i (h.lt i hF) (fun hg => hG i hg hF)) hb.size
theorem KeyAt.drew (h : KeyAt F kb s u ps w) : KeyAt F kb s u ps w.drew := h.kept (fun _ _ => rfl) (Nat.le_refl _)
theorem KeyAt.wider {G : Nat → Prop} (h : KeyAt F kb s u ps w) (hFG : ∀ i, F i → G i) (hG : ∀ i, G i → i < w.heap.size) : KeyAt G kb s u ps w :=
  ⟨h.key, h.row, h.len, h.puts, hFG _ h.kF, fun g hg => ⟨hFG _ (h.uF g hg).1, (h.uF g hg).2⟩, fun v hv b e => ⟨hFG _ (h.pF v hv b e).1, (h.pF v hv b e).2⟩, h.nod, hG⟩
theorem KeyAt.k0 (h : KeyAt F kb s u ps w) : w.cell? ⟨kb, 0, none⟩ = some u := BlkAt.cell h.key rfl
theorem KeyAt.k1 (h : KeyAt F kb s u ps w) : w.cell? ⟨kb, 1, none⟩ = some (.int .i64 s.last) := BlkAt.cell h.key rfl
/-- What the generations' slice looks like. -/
theorem KeyAt.form (h : KeyAt F kb s u ps w) : (u = .slice none 0 0 ∧ s.gs = []) ∨ ∃ g cap, u = .slice (some ⟨g, 0, none⟩) s.gs.length cap ∧ s.gs.length ≤ cap ∧ cap ≤ maxLen := by
  rcases h.row.2 with ⟨h1, h2⟩ | ⟨g, cap, cur, hv, _, _, hn, hm, _⟩
  · exact .inl ⟨h1, List.eq_nil_of_length_eq_zero h2⟩
  · exact .inr ⟨g, cap, hv, hn, hm⟩
theorem KeyAt.gcell (h : KeyAt F kb s u ps w) {g cap : Nat} (hu : u = .slice (some ⟨g, 0, none⟩) s.gs.length cap) (i : Nat) (h1 : i < s.gs.length) (h2 : i < ps.length) (j : Nat) (hj : j < 4) : w.cell? ⟨g, i * 4 + j, none⟩ = (gnCells s.gs[i] ps[i])[j]? ∧ w.frozen? ⟨g, i * 4 + j, none⟩ = false := by
  rcases h.row.2 with ⟨h1', _⟩ | ⟨g', cap', cur, hv, _, hh, hn, hm, hs, hx⟩
  · rw [h1'] at hu; simp at hu
  · rw [hu] at hv
    simp only [Value.slice.injEq, Option.some.injEq, Addr.mk.injEq] at hv
    obtain ⟨⟨rfl, _⟩, _, rfl⟩ := hv
    refine ⟨?_, Lib.frozen_of_heap hh _⟩
    rw [Lib.cell_of_heap hh, ← gnRow_get s.gs ps i j h1 h2 hj, ← hx, List.getElem?_take, if_pos (by omega), Array.getElem?_toList]
end
theorem gnRow_set : ∀ (gs : List Gn) (ps : List Value) (i j : Nat) (x : Value) (g' : Gn) (v' : Value) (h1 : i < gs.length) (h2 : i < ps.length), j < 4 → (gnCells gs[i] ps[i]).set j x = gnCells g' v' → (gnRow gs ps).set (i * 4 + j) x = gnRow (gs.set i g') (ps.set i v') := by
  intro gs
  induction gs with
  | nil => intro ps i j x g' v' h1; simp at h1
  | cons g gs ih =>
    intro ps i j x g' v' h1 h2 hj he
    cases ps with
    | nil => simp at h2
    | cons p ps =>
      show ((gnCells g p) ++ gnRow gs ps).set (i * 4 + j) x = _
      cases i with
      | zero =>
        rw [List.set_append_left _ _ (by simp [gnCells]; omega)]
        simp only [List.getElem_cons_zero] at he
        rw [Nat.zero_mul, Nat.zero_add, he]; rfl
      | succ i =>
        rw [List.set_append_right _ _ (by simp [gnCells]; omega)]
        have e : (i + 1) * 4 + j - (gnCells g p).length = i * 4 + j := by simp [gnCells]; omega
        rw [e, ih ps i j x g' v' (by simpa using h1) (by simpa using h2) hj (by simpa using he)]
        rfl
theorem bind_set (ps : List Value) (i k : Nat) (v : Value) (h : i < ps.length) : ((ps.set i v)[k]?.bind Value.ownBlock) = if i = k then v.ownBlock else (ps[k]?.bind Value.ownBlock) := by
  rw [List.getElem?_set]
  by_cases e : i = k
  · subst e; simp [h]
  · simp [e]
/-- A generation's cell stored anew, its puts perhaps in another row. -/
theorem KeyAt.setP {F : Nat → Prop} {kb : Nat} {s : Ks} {u : Value} {ps : List Value} {w : World} (h : KeyAt F kb s u ps w) {g cap : Nat} (hu : u = .slice (some ⟨g, 0, none⟩) s.gs.length cap) (i j : Nat) (h1 : i < s.gs.length) (h2 : i < ps.length) (hj : j < 4) (x : Value) (g' : Gn) (v' : Value) (w1 : World)
    (he : (gnCells s.gs[i] ps[i]).set j x = gnCells g' v') (hk : ∀ b, F b → ps[i].ownBlock ≠ some b → w1.heap[b]? = w.heap[b]?) (hp : PutsAt w1 v' g'.puts) (hnew : ∀ b, v'.ownBlock = some b → ps[i].ownBlock = some b ∨ w.heap.size ≤ b) (hs : w.heap.size ≤ w1.heap.size) :
    KeyAt (fun b => F b ∨ v'.ownBlock = some b) kb ⟨s.gs.set i g', s.last⟩ u (ps.set i v') (w1.setCell ⟨g, i * 4 + j, none⟩ x) := by
  have hub : u.ownBlock = some g := by rw [hu]; rfl
  have hgF := h.uF g hub
  have hpi : ∀ b, ps[i].ownBlock = some b → F b ∧ b ≠ kb ∧ b ≠ g := fun b e => by
    obtain ⟨a1, a2, a3⟩ := h.pF _ (List.getElem_mem h2) b e
    exact ⟨a1, a2, fun e2 => a3 (by rw [hub, e2])⟩
  have hglt := h.lt g hgF.1
  have hvg : ∀ b, v'.ownBlock = some b → b ≠ g ∧ b ≠ kb := fun b e => by
    rcases hnew b e with k | k
    · exact ⟨(hpi b k).2.2, (hpi b k).2.1⟩
    · have := h.lt kb h.kF
      exact ⟨by omega, by omega⟩
  have hgi : w1.heap[g]? = w.heap[g]? := hk g hgF.1 (fun e => (hpi g e).2.2 rfl)
  have hset : ∀ b, b ≠ g → (w1.setCell ⟨g, i * 4 + j, none⟩ x).heap[b]? = w1.heap[b]? := fun b hb => Below.heap_setCell _ _ _ _ hb
  refine ⟨?_, ?_, by simp [h.len], ?_, .inl h.kF, fun b e => ⟨.inl (h.uF b e).1, (h.uF b e).2⟩, ?_, ?_, ?_⟩
  · have hkey := h.key
    unfold BlkAt at hkey ⊢
    rw [hset kb (Ne.symm hgF.2), hk kb h.kF (fun e => (hpi kb e).2.1 rfl)]; exact hkey
  · rcases h.row.2 with ⟨e0, _⟩ | ⟨g2, cap2, cur, hv, hb, hh, hn, hm, hsz, hx⟩
    · rw [e0] at hu; simp at hu
    · rw [hu] at hv
      simp only [Value.slice.injEq, Option.some.injEq, Addr.mk.injEq] at hv
      obtain ⟨⟨rfl, _⟩, _, rfl⟩ := hv
      refine ⟨by rw [gnRow_length _ _ (by simp [h.len])], .inr ⟨g, cap, cur.setIfInBounds (i * 4 + j) x, by rw [hu]; simp, hb, ?_, by simpa using hn, hm, by simpa using hsz, ?_⟩⟩
      · have := Lib.heap_setCell_same (w := w1) (i := i * 4 + j) (by rw [hgi]; exact hh) x
        exact this
      · rw [List.length_set, Array.toList_setIfInBounds, List.take_set, hx, gnRow_set s.gs ps i j x g' v' h1 h2 hj he]
  · intro k k1 k2
    simp only [List.length_set] at k1 k2
    have hkp := h.puts k k1 k2
    by_cases e : i = k
    · subst e
      simp only [List.getElem_set_self]
      exact hp.kept (fun b hb => hset b (hvg b hb).1)
    · simp only [List.getElem_set_ne e]
      refine hkp.kept (fun b hb => ?_)
      have hb2 := h.pF _ (List.getElem_mem k2) b hb
      have hbg : b ≠ g := fun e2 => hb2.2.2 (by rw [hub, e2])
      rw [hset b hbg]
      refine hk b hb2.1 (fun e2 => e ?_)
      exact h.nod i k b (by simp [h2, e2]) (by simp [k2, hb])
  · intro v hv b hb
    rcases List.mem_or_eq_of_mem_set hv with hv | rfl
    · obtain ⟨a1, a2, a3⟩ := h.pF v hv b hb
      exact ⟨.inl a1, a2, a3⟩
    · refine ⟨.inr hb, (hvg b hb).2, fun e => (hvg b hb).1 ?_⟩
      rw [hub] at e; exact (Option.some.inj e).symm
  · intro a c b ha hc
    rw [bind_set ps i a v' h2] at ha
    rw [bind_set ps i c v' h2] at hc
    have key : ∀ k, v'.ownBlock = some b → (ps[k]?.bind Value.ownBlock) = some b → i = k := by
      intro k e1 e2
      rcases hnew b e1 with n | n
      · exact h.nod i k b (by simp [h2, n]) e2
      · exfalso
        cases hq : ps[k]? with
        | none => rw [hq] at e2; simp at e2
        | some q =>
          rw [hq] at e2
          have := h.lt b (h.pF q (List.mem_of_getElem? hq) b (by simpa using e2)).1
          omega
    by_cases e1 : i = a
    · rw [if_pos e1] at ha
      by_cases e2 : i = c
      · omega
      · rw [if_neg e2] at hc
        have := key c ha hc; omega
    · rw [if_neg e1] at ha
      by_cases e2 : i = c
      · rw [if_pos e2] at hc
        have := key a hc ha; omega
      · rw [if_neg e2] at hc
        exact h.nod a c b ha hc
  · intro b hb
    have hsz : (w1.setCell ⟨g, i * 4 + j, none⟩ x).heap.size = w1.heap.size := by simp [World.setCell]
    rw [hsz]
    rcases hb with hb | hb
    · exact Nat.lt_of_lt_of_le (h.lt b hb) hs
    · exact hp.lt hb
/-- A new key. -/
theorem key_new (w : World) : KeyAt (fun b => b = w.heap.size) w.heap.size newK (.slice none 0 0) [] (w.alloc (.cells #[.slice none 0 0, .int .i64 0] KeyT)) :=
  ⟨BlkAt.alloc_new w _ _, World.ownsRow_nil _ _ _ _, rfl, fun i h1 => by simp [newK] at h1, rfl, fun g hg => by simp [Value.ownBlock] at hg, fun p hp => by simp at hp, fun i j b h => by simp at h, fun b hb => by subst hb; simp⟩
end Go.Proofs.Ytnliapdhmjljiaa
