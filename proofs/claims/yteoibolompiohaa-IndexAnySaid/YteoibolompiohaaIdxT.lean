/- The plain law of the tree: nodes in a row, free ones chained; what is below a node, which nodes that takes, and when it is right; what a change below a node leaves. No program in sight. Conditions: as each theorem says. -/
import Derived.Test.YteoibolompiohaaIdxP
namespace Go.Proofs.Yteoibolompiohaa

theorem flatMap_same {α β : Type} {l : List α} {f g : α → List β} (h : ∀ x ∈ l, f x = g x) : l.flatMap f = l.flatMap g := by
  induction l with
  | nil => rfl
  | cons a l ih => rw [List.flatMap_cons, List.flatMap_cons, h a (by simp), ih fun x hx => h x (by simp [hx])]
structure Nod where
  ps : List Pr
  ks : List Nat
def noNod : Nod := ⟨[], []⟩
structure Tr where
  nodes : List Nod
  free : List Nat
  root : Nat
  many : Nat
def Tr.nd (t : Tr) (a : Nat) : Nod := t.nodes.getD a noNod
def Tr.put (t : Tr) (a : Nat) (n : Nod) : Tr := { t with nodes := t.nodes.set a n }
section
variable {t t' : Tr} {d a b : Nat} {n : Nod}
theorem nd_put_same (h : a < t.nodes.length) : (t.put a n).nd a = n := by simp [Tr.nd, Tr.put, h]
theorem nd_put_ne (h : b ≠ a) : (t.put a n).nd b = t.nd b := by
  unfold Tr.nd Tr.put
  simp only [List.getD_eq_getElem?_getD]
  rw [List.getElem?_set_ne (Ne.symm h)]
theorem put_len : (t.put a n).nodes.length = t.nodes.length := by simp [Tr.put]
theorem nd_out (h : t.nodes.length ≤ a) : t.nd a = noNod := by simp [Tr.nd, h]
/-- What is below a node, d levels deep. -/
def Tr.cont (t : Tr) : Nat → Nat → List Pr
  | 0, a => (t.nd a).ps
  | d + 1, a => weave ((t.nd a).ks.map fun k => t.cont d k) (t.nd a).ps
def Tr.contN (t : Tr) : Nat → Nod → List Pr
  | 0, n => n.ps
  | d + 1, n => weave (n.ks.map fun k => t.cont d k) n.ps
theorem cont_eq (t : Tr) (d a : Nat) : t.cont d a = t.contN d (t.nd a) := by cases d <;> rfl
/-- Which nodes those are. -/
def Tr.ids (t : Tr) : Nat → Nat → List Nat
  | 0, a => [a]
  | d + 1, a => a :: (t.nd a).ks.flatMap fun k => t.ids d k
def Tr.idsN (t : Tr) : Nat → Nod → List Nat
  | 0, _ => []
  | d + 1, n => n.ks.flatMap fun k => t.ids d k
theorem ids_eq (t : Tr) (d a : Nat) : t.ids d a = a :: t.idsN d (t.nd a) := by cases d <;> rfl
/-- When they are right. -/
def Tr.ok (t : Tr) : Nat → Nat → Prop
  | 0, a => a < t.nodes.length ∧ (t.nd a).ks = [] ∧ (t.nd a).ps.length ≤ 9
  | d + 1, a => a < t.nodes.length ∧ (t.nd a).ks.length = (t.nd a).ps.length + 1 ∧ (t.nd a).ps.length ≤ 9 ∧ ∀ k ∈ (t.nd a).ks, t.ok d k ∧ 4 ≤ (t.nd k).ps.length
def Tr.okN (t : Tr) : Nat → Nod → Prop
  | 0, n => n.ks = [] ∧ n.ps.length ≤ 9
  | d + 1, n => n.ks.length = n.ps.length + 1 ∧ n.ps.length ≤ 9 ∧ ∀ k ∈ n.ks, t.ok d k ∧ 4 ≤ (t.nd k).ps.length
theorem ok_eq (t : Tr) (d a : Nat) : t.ok d a ↔ a < t.nodes.length ∧ t.okN d (t.nd a) := by cases d <;> rfl
theorem ok_lt (h : t.ok d a) : a < t.nodes.length := ((ok_eq t d a).1 h).1
theorem okN_ps (h : t.okN d n) : n.ps.length ≤ 9 := by cases d; exact h.2; exact h.2.1
theorem ok_ps (h : t.ok d a) : (t.nd a).ps.length ≤ 9 := okN_ps ((ok_eq t d a).1 h).2
theorem ids_self (t : Tr) (d a : Nat) : a ∈ t.ids d a := by rw [ids_eq]; simp
theorem ids_lt : ∀ (d a : Nat), t.ok d a → ∀ x ∈ t.ids d a, x < t.nodes.length := by
  intro d
  induction d with
  | zero => intro a h x hx; rw [Tr.ids, List.mem_singleton] at hx; subst hx; exact h.1
  | succ d ih =>
    intro a h x hx
    rw [Tr.ids] at hx
    rcases List.mem_cons.1 hx with rfl | hx
    · exact h.1
    · obtain ⟨k, hk, hx⟩ := List.mem_flatMap.1 hx
      exact ih k (h.2.2.2 k hk).1 x hx
/-- Where the nodes below are as they were, all is. -/
theorem sub_same (hl : t.nodes.length ≤ t'.nodes.length) : ∀ (d a : Nat), (∀ x ∈ t.ids d a, t'.nd x = t.nd x) → t'.cont d a = t.cont d a ∧ t'.ids d a = t.ids d a ∧ (t.ok d a → t'.ok d a) := by
  intro d
  induction d with
  | zero =>
    intro a h
    have h0 := h a (ids_self t 0 a)
    exact ⟨by rw [Tr.cont, Tr.cont, h0], rfl, fun hk => by rw [Tr.ok, h0] at *; exact ⟨by have := hk.1; omega, hk.2⟩⟩
  | succ d ih =>
    intro a h
    have h0 := h a (ids_self t _ a)
    have hk : ∀ k ∈ (t.nd a).ks, ∀ x ∈ t.ids d k, t'.nd x = t.nd x := fun k hk x hx => h x (by rw [Tr.ids]; exact List.mem_cons_of_mem _ (List.mem_flatMap.2 ⟨k, hk, hx⟩))
    refine ⟨?_, ?_, fun hok => ?_⟩
    · rw [Tr.cont, Tr.cont, h0]
      congr 1
      exact List.map_congr_left fun k hk' => (ih k (hk k hk')).1
    · rw [Tr.ids, Tr.ids, h0]
      congr 1
      exact flatMap_same fun k hk' => (ih k (hk k hk')).2.1
    · rw [Tr.ok, h0]
      rw [Tr.ok] at hok
      refine ⟨by have := hok.1; omega, hok.2.1, hok.2.2.1, fun k hk' => ⟨(ih k (hk k hk')).2.2 (hok.2.2.2 k hk').1, ?_⟩⟩
      rw [hk k hk' k (ids_self t d k)]
      exact (hok.2.2.2 k hk').2
theorem subN_same (hl : t.nodes.length ≤ t'.nodes.length) (h : ∀ x ∈ t.idsN d n, t'.nd x = t.nd x) : t'.contN d n = t.contN d n ∧ t'.idsN d n = t.idsN d n ∧ (t.okN d n → t'.okN d n) := by
  cases d with
  | zero => exact ⟨rfl, rfl, fun hk => hk⟩
  | succ d =>
    have hk : ∀ k ∈ n.ks, ∀ x ∈ t.ids d k, t'.nd x = t.nd x := fun k hk x hx => h x (by rw [Tr.idsN]; exact List.mem_flatMap.2 ⟨k, hk, hx⟩)
    refine ⟨?_, ?_, fun hok => ?_⟩
    · rw [Tr.contN, Tr.contN]
      congr 1
      exact List.map_congr_left fun k hk' => (sub_same hl d k (hk k hk')).1
    · rw [Tr.idsN, Tr.idsN]
      exact flatMap_same fun k hk' => (sub_same hl d k (hk k hk')).2.1
    · rw [Tr.okN] at hok ⊢
      refine ⟨hok.1, hok.2.1, fun k hk' => ⟨(sub_same hl d k (hk k hk')).2.2 (hok.2.2 k hk').1, ?_⟩⟩
      rw [hk k hk' k (ids_self t d k)]
      exact (hok.2.2 k hk').2
/-- All that is asked of what is below a node: it is right, no node twice, nor free; free nodes are empty. -/
structure Tr.Good (t : Tr) (d a : Nat) : Prop where
  ok : t.ok d a
  nodup : (t.ids d a ++ t.free).Nodup
  frees : ∀ f ∈ t.free, f < t.nodes.length ∧ t.nd f = noNod
/-- A change below a node. -/
structure Chg (t t' : Tr) (d a : Nat) : Prop where
  root : t'.root = t.root
  len : t.nodes.length ≤ t'.nodes.length
  perm : (t'.ids d a ++ t'.free).Perm (t.ids d a ++ t.free ++ List.range' t.nodes.length (t'.nodes.length - t.nodes.length))
  far : ∀ x, x ∉ t.ids d a → x ∉ t.free → x < t.nodes.length → t'.nd x = t.nd x
  frees : ∀ f ∈ t'.free, f < t'.nodes.length ∧ t'.nd f = noNod
  ok : t'.ok d a
theorem Chg.refl (h : t.Good d a) : Chg t t d a := ⟨rfl, Nat.le_refl _, by simp, fun _ _ _ _ => rfl, h.frees, h.ok⟩
theorem good_of_chg (h : t.Good d a) (c : Chg t t' d a) : t'.Good d a := by
  refine ⟨c.ok, (c.perm.nodup_iff).2 ?_, c.frees⟩
  rw [List.nodup_append]
  refine ⟨h.nodup, List.nodup_range', fun x hx y hy => ?_⟩
  rw [List.mem_range'_1] at hy
  rcases List.mem_append.1 hx with hx | hx
  · have := ids_lt _ _ h.ok x hx; omega
  · have := (h.frees x hx).1; omega
theorem chg_mem (c : Chg t t' d a) (x : Nat) (hx : x ∈ t'.ids d a ∨ x ∈ t'.free) : x ∈ t.ids d a ∨ x ∈ t.free ∨ t.nodes.length ≤ x := by
  have := c.perm.mem_iff.1 (List.mem_append.2 hx)
  rw [List.mem_append, List.mem_append, List.mem_range'_1] at this
  rcases this with (h | h) | h
  · exact .inl h
  · exact .inr (.inl h)
  · exact .inr (.inr h.1)
theorem Chg.trans {t2 : Tr} (c : Chg t t' d a) (k : Chg t' t2 d a) : Chg t t2 d a := by
  refine ⟨k.root.trans c.root, Nat.le_trans c.len k.len, ?_, fun x h1 h2 h3 => ?_, k.frees, k.ok⟩
  · have hc := c.len
    have hk := k.len
    have e : List.range' t.nodes.length (t2.nodes.length - t.nodes.length) = List.range' t.nodes.length (t'.nodes.length - t.nodes.length) ++ List.range' t'.nodes.length (t2.nodes.length - t'.nodes.length) := by
      have := List.range'_append (s := t.nodes.length) (m := t'.nodes.length - t.nodes.length) (n := t2.nodes.length - t'.nodes.length) (step := 1)
      rw [Nat.one_mul, show t.nodes.length + (t'.nodes.length - t.nodes.length) = t'.nodes.length by omega, show t'.nodes.length - t.nodes.length + (t2.nodes.length - t'.nodes.length) = t2.nodes.length - t.nodes.length by omega] at this
      exact this.symm
    rw [e, ← List.append_assoc]
    exact k.perm.trans (List.Perm.append_right _ c.perm)
  · have hn : ¬ (x ∈ t'.ids d a ∨ x ∈ t'.free) := fun h => by
      rcases chg_mem c x h with h | h | h
      · exact h1 h
      · exact h2 h
      · omega
    rw [k.far x (fun h => hn (.inl h)) (fun h => hn (.inr h)) (by have := c.len; omega), c.far x h1 h2 h3]
/-- A node's kids lie apart. -/
theorem kids_apart (h : t.Good (d + 1) a) {A B : List Nat} {k : Nat} (hk : (t.nd a).ks = A ++ k :: B) :
    t.Good d k ∧ a ∉ t.ids d k ∧ a ∉ t.free ∧ ∀ x ∈ A ++ B, ∀ y ∈ t.ids d x, y ∉ t.ids d k ∧ y ∉ t.free ∧ y < t.nodes.length ∧ y ≠ a := by
  have hn := h.nodup
  have hok := h.ok
  rw [Tr.ok] at hok
  have hmem : ∀ x ∈ A ++ B, x ∈ (t.nd a).ks := fun x hx => by
    rw [hk]
    rcases List.mem_append.1 hx with hx | hx
    · exact List.mem_append_left _ hx
    · exact List.mem_append_right _ (List.mem_cons_of_mem _ hx)
  rw [Tr.ids, hk, List.flatMap_append, List.flatMap_cons, List.cons_append, List.nodup_cons] at hn
  obtain ⟨ha, hn⟩ := hn
  rw [List.nodup_append] at hn
  obtain ⟨hn1, hn2, hn3⟩ := hn
  rw [List.nodup_append] at hn1
  obtain ⟨hnA, hn4, hn5⟩ := hn1
  rw [List.nodup_append] at hn4
  obtain ⟨hnk, hnB, hn6⟩ := hn4
  have hkk : k ∈ (t.nd a).ks := by rw [hk]; simp
  refine ⟨⟨(hok.2.2.2 k hkk).1, ?_, h.frees⟩, ?_, ?_, fun x hx y hy => ?_⟩
  · rw [List.nodup_append]
    exact ⟨hnk, hn2, fun x hx y hy => hn3 x (by simp [hx]) y hy⟩
  · intro h1; exact ha (by simp [h1])
  · intro h1; exact ha (by simp [h1])
  · have hyl := ids_lt _ _ (hok.2.2.2 x (hmem x hx)).1 y hy
    rcases List.mem_append.1 hx with hx | hx
    · have hyA : y ∈ A.flatMap fun k => t.ids d k := List.mem_flatMap.2 ⟨x, hx, hy⟩
      exact ⟨fun h1 => hn5 y hyA y (by simp [h1]) rfl, fun h1 => hn3 y (by simp [hyA]) y h1 rfl, hyl, fun e => ha (by rw [← e]; exact List.mem_append_left _ (List.mem_append_left _ hyA))⟩
    · have hyB : y ∈ B.flatMap fun k => t.ids d k := List.mem_flatMap.2 ⟨x, hx, hy⟩
      exact ⟨fun h1 => hn6 y h1 y hyB rfl, fun h1 => hn3 y (List.mem_append_right _ (List.mem_append_right _ hyB)) y h1 rfl, hyl, fun e => ha (by rw [← e]; exact List.mem_append_left _ (List.mem_append_right _ (List.mem_append_right _ hyB)))⟩
/-- A change below a kid is one below the node. -/
theorem Chg.up (h : t.Good (d + 1) a) {A B : List Nat} {k : Nat} (hk : (t.nd a).ks = A ++ k :: B) (c : Chg t t' d k) (h4 : 4 ≤ (t'.nd k).ps.length) :
    Chg t t' (d + 1) a ∧ t'.nd a = t.nd a ∧ (∀ x ∈ A ++ B, t'.cont d x = t.cont d x ∧ t'.nd x = t.nd x) := by
  obtain ⟨hgk, ha, haf, hx⟩ := kids_apart h hk
  have hok := h.ok
  rw [Tr.ok] at hok
  have hna : t'.nd a = t.nd a := c.far a ha haf hok.1
  have hsub : ∀ x ∈ A ++ B, t'.cont d x = t.cont d x ∧ t'.ids d x = t.ids d x ∧ (t.ok d x → t'.ok d x) := fun x hxm =>
    sub_same c.len d x fun y hy => by
      obtain ⟨h1, h2, h3, _⟩ := hx x hxm y hy
      exact c.far y h1 h2 h3
  have hsnd : ∀ x ∈ A ++ B, t'.nd x = t.nd x := fun x hxm => by
    obtain ⟨h1, h2, h3, _⟩ := hx x hxm x (ids_self t d x)
    exact c.far x h1 h2 h3
  have hmem : ∀ x ∈ A ++ B, x ∈ (t.nd a).ks := fun x hx => by
    rw [hk]
    rcases List.mem_append.1 hx with hx | hx
    · exact List.mem_append_left _ hx
    · exact List.mem_append_right _ (List.mem_cons_of_mem _ hx)
  refine ⟨⟨c.root, c.len, ?_, fun x h1 h2 h3 => ?_, c.frees, ?_⟩, hna, fun x hxm => ⟨(hsub x hxm).1, hsnd x hxm⟩⟩
  · have eA : A.flatMap (fun k => t'.ids d k) = A.flatMap fun k => t.ids d k := flatMap_same fun x hxm => (hsub x (List.mem_append_left _ hxm)).2.1
    have eB : B.flatMap (fun k => t'.ids d k) = B.flatMap fun k => t.ids d k := flatMap_same fun x hxm => (hsub x (List.mem_append_right _ hxm)).2.1
    rw [Tr.ids, Tr.ids, hna, hk, List.flatMap_append, List.flatMap_cons, List.flatMap_append, List.flatMap_cons, eA, eB]
    have hp := c.perm
    rw [List.perm_iff_count] at hp ⊢
    intro x
    have := hp x
    simp only [List.cons_append, List.count_cons, List.count_append] at *
    omega
  · refine c.far x (fun h4 => h1 ?_) h2 h3
    rw [Tr.ids]
    exact List.mem_cons_of_mem _ (List.mem_flatMap.2 ⟨k, by rw [hk]; simp, h4⟩)
  · rw [Tr.ok, hna]
    refine ⟨by have := hok.1; have := c.len; omega, hok.2.1, hok.2.2.1, fun x hxm => ?_⟩
    rw [hk] at hxm
    by_cases e : x = k
    · subst e; exact ⟨c.ok, h4⟩
    · have hxab : x ∈ A ++ B := by
        rcases List.mem_append.1 hxm with h | h
        · exact List.mem_append_left _ h
        · rcases List.mem_cons.1 h with h | h
          · exact absurd h e
          · exact List.mem_append_right _ h
      refine ⟨(hsub x hxab).2.2 (hok.2.2.2 x (hmem x hxab)).1, ?_⟩
      rw [hsnd x hxab]
      exact (hok.2.2.2 x (hmem x hxab)).2
theorem split_at (l : List Nat) (i : Nat) (h : i < l.length) : l = l.take i ++ l[i] :: l.drop (i + 1) := by rw [List.getElem_cons_drop, List.take_append_drop]
/-- What the node has then. -/
theorem cont_up (h : t.Good (d + 1) a) {A B : List Nat} {k : Nat} (hk : (t.nd a).ks = A ++ k :: B) (c : Chg t t' d k) (h4 : 4 ≤ (t'.nd k).ps.length) :
    t'.cont (d + 1) a = wpre ((t.nd a).ks.map fun k => t.cont d k) (t.nd a).ps A.length ++ t'.cont d k ++ wpost ((t.nd a).ks.map fun k => t.cont d k) (t.nd a).ps A.length := by
  obtain ⟨_, hna, hx⟩ := Chg.up h hk c h4
  have hok := h.ok
  rw [Tr.ok] at hok
  have hl : ((t.nd a).ks.map fun k => t.cont d k).length = (t.nd a).ps.length + 1 := by simp [hok.2.1]
  rw [← weave_set _ _ A.length hl (by rw [hl, ← hok.2.1, hk]; simp), Tr.cont, hna]
  congr 1
  rw [hk, List.map_append, List.map_cons, List.map_append, List.map_cons, List.set_append_right _ _ (by simp), List.length_map, Nat.sub_self, List.set_cons_zero]
  congr 1
  · exact List.map_congr_left fun x hxm => (hx x (List.mem_append_left _ hxm)).1
  · congr 1
    exact List.map_congr_left fun x hxm => (hx x (List.mem_append_right _ hxm)).1
theorem cont_was (h : t.Good (d + 1) a) {A B : List Nat} {k : Nat} (hk : (t.nd a).ks = A ++ k :: B) :
    t.cont (d + 1) a = wpre ((t.nd a).ks.map fun k => t.cont d k) (t.nd a).ps A.length ++ t.cont d k ++ wpost ((t.nd a).ks.map fun k => t.cont d k) (t.nd a).ps A.length := by
  have hok := h.ok
  rw [Tr.ok] at hok
  exact cont_up h hk (Chg.refl (kids_apart h hk).1) (hok.2.2.2 k (by rw [hk]; simp)).2
end
end Go.Proofs.Yteoibolompiohaa
