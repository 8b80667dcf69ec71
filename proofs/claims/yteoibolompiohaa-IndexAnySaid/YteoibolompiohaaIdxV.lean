/- The plain law of the whole tree: a put, a taking away, a look; how many nodes and levels there are. No program in sight. Conditions: as each theorem says. -/
import Derived.Test.YteoibolompiohaaIdxR
namespace Go.Proofs.Yteoibolompiohaa

section
variable {t t' : Tr} {d a b : Nat} {n : Nod}
theorem sum_ge {α : Type} (l : List α) (f : α → Nat) (c : Nat) (h : ∀ x ∈ l, c ≤ f x) : l.length * c ≤ (l.map f).sum := by
  induction l with
  | nil => simp
  | cons x l ih =>
    have h1 := h x (by simp)
    have h2 := ih fun y hy => h y (by simp [hy])
    rw [List.length_cons, Nat.succ_mul, List.map_cons, List.sum_cons]
    omega
theorem sum_le {α : Type} (l : List α) (f : α → Nat) (c : Nat) (h : ∀ x ∈ l, f x ≤ c) : (l.map f).sum ≤ l.length * c := by
  induction l with
  | nil => simp
  | cons x l ih =>
    have h1 := h x (by simp)
    have h2 := ih fun y hy => h y (by simp [hy])
    rw [List.length_cons, Nat.succ_mul, List.map_cons, List.sum_cons]
    omega
theorem sum_mono {α : Type} (l : List α) (f g : α → Nat) (h : ∀ x ∈ l, f x ≤ g x) : (l.map f).sum ≤ (l.map g).sum := by
  induction l with
  | nil => simp
  | cons x l ih =>
    have h1 := h x (by simp)
    have h2 := ih fun y hy => h y (by simp [hy])
    rw [List.map_cons, List.sum_cons, List.map_cons, List.sum_cons]
    omega
theorem sum_mul {α : Type} (l : List α) (f : α → Nat) (c : Nat) : (l.map fun x => c * f x).sum = c * (l.map f).sum := by
  induction l with
  | nil => simp
  | cons x l ih => rw [List.map_cons, List.sum_cons, List.map_cons, List.sum_cons, ih, Nat.mul_add]
theorem flatMap_len {α β : Type} (l : List α) (f : α → List β) : (l.flatMap f).length = (l.map fun x => (f x).length).sum := by
  induction l with
  | nil => rfl
  | cons x l ih => rw [List.flatMap_cons, List.length_append, List.map_cons, List.sum_cons, ih]
theorem cont_len (h : t.ok (d + 1) a) : (t.cont (d + 1) a).length = ((t.nd a).ks.map fun k => (t.cont d k).length).sum + (t.nd a).ps.length := by
  rw [Tr.ok] at h
  rw [Tr.cont, weave_length _ _ (by simp [h.2.1]), List.map_map]
  rfl
theorem low_ids : ∀ (d a : Nat), t.ok d a → 4 ≤ (t.nd a).ps.length → 4 * (t.ids d a).length ≤ (t.cont d a).length := by
  intro d
  induction d with
  | zero => intro a h h4; simpa [Tr.ids, Tr.cont] using h4
  | succ d ih =>
    intro a h h4
    rw [cont_len h, Tr.ids, List.length_cons, flatMap_len]
    rw [Tr.ok] at h
    have := sum_mono (t.nd a).ks (fun x => 4 * (t.ids d x).length) (fun k => (t.cont d k).length) fun x hx => ih x (h.2.2.2 x hx).1 (h.2.2.2 x hx).2
    rw [sum_mul] at this
    omega
theorem root_ids (h : t.ok d a) : 4 * ((t.ids d a).length - 1) ≤ (t.cont d a).length := by
  cases d with
  | zero => simp [Tr.ids]
  | succ d =>
    rw [cont_len h, Tr.ids, List.length_cons, flatMap_len]
    rw [Tr.ok] at h
    have := sum_mono (t.nd a).ks (fun x => 4 * (t.ids d x).length) (fun k => (t.cont d k).length) fun x hx => low_ids d x (h.2.2.2 x hx).1 (h.2.2.2 x hx).2
    rw [sum_mul] at this
    omega
theorem low_pow : ∀ (d a : Nat), t.ok d a → 4 ≤ (t.nd a).ps.length → 5 ^ (d + 1) ≤ (t.cont d a).length + 1 := by
  intro d
  induction d with
  | zero => intro a h h4; simp [Tr.cont]; omega
  | succ d ih =>
    intro a h h4
    rw [cont_len h]
    rw [Tr.ok] at h
    have := sum_ge (t.nd a).ks (fun k => (t.cont d k).length) (5 ^ (d + 1) - 1) fun x hx => by have := ih x (h.2.2.2 x hx).1 (h.2.2.2 x hx).2; omega
    have hp : 1 ≤ 5 ^ (d + 1) := Nat.one_le_pow _ _ (by omega)
    have h5 : 5 * (5 ^ (d + 1) - 1) ≤ (t.nd a).ks.length * (5 ^ (d + 1) - 1) := Nat.mul_le_mul_right _ (by omega)
    rw [Nat.pow_succ]
    omega
theorem root_pow (h : t.ok (d + 1) a) (h1 : 1 ≤ (t.nd a).ps.length) : 2 * 5 ^ (d + 1) ≤ (t.cont (d + 1) a).length + 1 := by
  rw [cont_len h]
  rw [Tr.ok] at h
  have := sum_ge (t.nd a).ks (fun k => (t.cont d k).length) (5 ^ (d + 1) - 1) fun x hx => by have := low_pow d x (h.2.2.2 x hx).1 (h.2.2.2 x hx).2; omega
  have hp : 1 ≤ 5 ^ (d + 1) := Nat.one_le_pow _ _ (by omega)
  have h5 : 2 * (5 ^ (d + 1) - 1) ≤ (t.nd a).ks.length * (5 ^ (d + 1) - 1) := Nat.mul_le_mul_right _ (by omega)
  omega
theorem high_pow : ∀ (d a : Nat), t.ok d a → (t.cont d a).length + 1 ≤ 10 ^ (d + 1) := by
  intro d
  induction d with
  | zero => intro a h; have := ok_ps h; simp [Tr.cont]; omega
  | succ d ih =>
    intro a h
    have h9 := ok_ps h
    rw [cont_len h]
    rw [Tr.ok] at h
    have := sum_le (t.nd a).ks (fun k => (t.cont d k).length) (10 ^ (d + 1) - 1) fun x hx => by have := ih x (h.2.2.2 x hx).1; omega
    have hp : 1 ≤ 10 ^ (d + 1) := Nat.one_le_pow _ _ (by omega)
    have h5 : (t.nd a).ks.length * (10 ^ (d + 1) - 1) ≤ 10 * (10 ^ (d + 1) - 1) := Nat.mul_le_mul_right _ (by omega)
    rw [Nat.pow_succ]
    omega
/-! A look. -/
def getO : Nat → Tr → Nat → Key → Int × Bool
  | 0, _, _, _ => (0, false)
  | f + 1, t, a, k => if hasF (t.nd a).ps k = true then (numF (t.nd a).ps k, true) else if (t.nd a).ks.length = 0 then (0, false) else getO f t ((t.nd a).ks.getD (spotF (t.nd a).ps k) 0) k
theorem num_no {l : List Pr} {k : Key} (h : hasF l k = false) : numF l k = 0 := by
  unfold numF hasF at *
  split
  · rename_i p hp
    rw [hp] at h
    rw [if_neg (of_decide_eq_false h)]
  · rfl
theorem num_here (h : t.Good d a) (hs : SortedK (t.cont d a)) (k : Key) (hi : hasF (t.nd a).ps k = true) : numF (t.nd a).ps k = numF (t.cont d a) k ∧ hasF (t.cont d a) k = true := by
  obtain ⟨t', e1, _⟩ := (set_here k 0 h hs hi 0).out
  rw [setO, if_pos hi] at e1
  simp only [Option.some.injEq, Prod.mk.injEq] at e1
  exact ⟨e1.2.1, e1.2.2.symm⟩
theorem get_law : ∀ (d : Nat) (a : Nat) (k : Key), t.Good d a → SortedK (t.cont d a) → ∀ f, d + 1 ≤ f → getO f t a k = (numF (t.cont d a) k, hasF (t.cont d a) k) := by
  intro d
  induction d with
  | zero =>
    intro a k h hs f hf
    obtain ⟨f, rfl⟩ : ∃ g, f = g + 1 := ⟨f - 1, by omega⟩
    have hok := h.ok
    rw [Tr.ok] at hok
    have hcc : t.cont 0 a = (t.nd a).ps := rfl
    rw [getO, hcc]
    by_cases hi : hasF (t.nd a).ps k = true
    · rw [if_pos hi, hi]
    · rw [if_neg hi, if_pos (by rw [hok.2.1]; rfl)]
      rw [Bool.not_eq_true] at hi
      rw [hi, num_no hi]
  | succ d ih =>
    intro a k h hs f hf
    obtain ⟨f, rfl⟩ : ∃ g, f = g + 1 := ⟨f - 1, by omega⟩
    rw [getO]
    by_cases hi : hasF (t.nd a).ps k = true
    · rw [if_pos hi]
      obtain ⟨e1, e2⟩ := num_here h hs k hi
      rw [e1, e2]
    · rw [Bool.not_eq_true] at hi
      have hok := h.ok
      rw [Tr.ok] at hok
      have hsp := spot_kid h k
      have hk := split_at (t.nd a).ks (spotF (t.nd a).ps k) hsp
      have hg : (t.nd a).ks.getD (spotF (t.nd a).ps k) 0 = (t.nd a).ks[spotF (t.nd a).ps k] := by simp [List.getD, hsp]
      have hAl : ((t.nd a).ks.take (spotF (t.nd a).ps k)).length = spotF (t.nd a).ps k := by simp; omega
      have hl : ((t.nd a).ks.map fun k => t.cont d k).length = (t.nd a).ps.length + 1 := by simp [hok.2.1]
      have hw := weave_where _ _ k hl hs hi
      have hwas := cont_was h hk
      rw [hAl] at hwas
      have hs2 := hs
      rw [hwas, SortedK.append, SortedK.append] at hs2
      rw [hi, if_neg (by simp), if_neg (by omega), hg, ih _ k (kids_apart h hk).1 hs2.1.2.1 f (by omega), hwas, numF_mid _ _ _ _ hw.1 hw.2, hasF_mid _ _ _ _ hw.1 hw.2]
/-! Nodes come only where none is free. -/
def Gr (t t' : Tr) : Prop := t'.free.length ≤ t.free.length ∧ (t'.nodes.length = t.nodes.length ∨ t'.free = [])
theorem Gr.refl (t : Tr) : Gr t t := ⟨Nat.le_refl _, .inl rfl⟩
theorem Gr.trans {t2 : Tr} (h : Gr t t') (k : Gr t' t2) : Gr t t2 := by
  refine ⟨Nat.le_trans k.1 h.1, ?_⟩
  rcases k.2 with k2 | k2
  · rcases h.2 with h2 | h2
    · exact .inl (k2.trans h2)
    · right
      have := k.1
      rw [h2] at this
      exact List.eq_nil_of_length_eq_zero (by simpa using this)
  · exact .inr k2
theorem Gr.put (t : Tr) (a : Nat) (n : Nod) : Gr t (t.put a n) := ⟨Nat.le_refl _, .inl put_len⟩
theorem Gr.take (t : Tr) : Gr t (takeT t).2 := by
  unfold takeT
  cases e : t.free.getLast? with
  | none =>
    have e0 : t.free = [] := List.getLast?_eq_none_iff.1 e
    exact ⟨Nat.le_refl _, .inr e0⟩
  | some r => exact ⟨by simp, .inl rfl⟩
theorem Gr.split (t : Tr) (a i : Nat) : Gr t (splitT t a i) := by
  unfold splitT
  exact (((Gr.take t).trans (Gr.put _ _ _)).trans (Gr.put _ _ _)).trans (Gr.put _ _ _)
theorem Gr.setO : ∀ (f : Nat) (t : Tr) (a : Nat) (k : Key) (n : Int) (t' : Tr) (v : Int) (b : Bool), setO f t a k n = some (t', v, b) → Gr t t' := by
  intro f
  induction f with
  | zero => intro t a k n t' v b h; cases h
  | succ f ih =>
    intro t a k n t' v b h
    rw [Go.Proofs.Yteoibolompiohaa.setO] at h
    by_cases c1 : hasF (t.nd a).ps k = true
    · rw [if_pos c1] at h
      simp only [Option.some.injEq, Prod.mk.injEq] at h
      rw [← h.1]; exact Gr.put _ _ _
    rw [if_neg c1] at h
    by_cases c2 : (t.nd a).ks.length = 0
    · rw [if_pos c2] at h
      simp only [Option.some.injEq, Prod.mk.injEq] at h
      rw [← h.1]; exact ⟨Nat.le_refl _, .inl put_len⟩
    rw [if_neg c2] at h
    by_cases c3 : (t.nd ((t.nd a).ks.getD (spotF (t.nd a).ps k) 0)).ps.length = 9
    · rw [if_pos c3] at h
      exact (Gr.split _ _ _).trans (ih _ _ _ _ _ _ _ h)
    · rw [if_neg c3] at h
      exact ih _ _ _ _ _ _ _ h
/-- All that is asked of a tree: 'most' is the greatest number of keys that it had. -/
structure Tr.wf (t : Tr) (d hi : Nat) : Prop where
  good : t.Good d t.root
  top : d ≠ 0 → 1 ≤ (t.nd t.root).ps.length
  all : (t.ids d t.root).length + t.free.length = t.nodes.length
  sorted : SortedK (t.cont d t.root)
  many : t.many = (t.cont d t.root).length
  most : t.many ≤ hi
  few : 4 * (t.nodes.length - 1) ≤ hi
def newTr : Tr := ⟨[noNod], [], 0, 0⟩
theorem new_wf : newTr.wf 0 0 := ⟨⟨⟨by decide, rfl, by decide⟩, by decide, fun f hf => by cases hf⟩, fun h => absurd rfl h, rfl, List.Pairwise.nil, rfl, Nat.le_refl _, by decide⟩
theorem new_cont : newTr.cont 0 newTr.root = [] := rfl
theorem chg_all (c : Chg t t' d a) (h : (t.ids d a).length + t.free.length = t.nodes.length) : (t'.ids d a).length + t'.free.length = t'.nodes.length := by
  have := c.perm.length_eq
  simp only [List.length_append, List.length_range'] at this
  have := c.len
  omega
/-- A root over a full root, which is halved. -/
def growT (t : Tr) : Tr := if (t.nd t.root).ps.length = 9 then splitT { (takeT t).2.put (takeT t).1 ⟨[], [t.root]⟩ with root := (takeT t).1 } (takeT t).1 0 else t
structure Grown (t t1 : Tr) (d1 : Nat) : Prop where
  good : t1.Good d1 t1.root
  room : (t1.nd t1.root).ps.length ≤ 8
  top : d1 ≠ 0 → 1 ≤ (t1.nd t1.root).ps.length
  all : (t1.ids d1 t1.root).length + t1.free.length = t1.nodes.length
  many : t1.many = t.many
  gr : Gr t t1
theorem top_good (h : t.Good d t.root) (h9 : (t.nd t.root).ps.length = 9) (ha : (t.ids d t.root).length + t.free.length = t.nodes.length) :
    ({ (takeT t).2.put (takeT t).1 ⟨[], [t.root]⟩ with root := (takeT t).1 } : Tr).Good (d + 1) (takeT t).1 ∧ ({ (takeT t).2.put (takeT t).1 ⟨[], [t.root]⟩ with root := (takeT t).1 } : Tr).cont (d + 1) (takeT t).1 = t.cont d t.root ∧
    ({ (takeT t).2.put (takeT t).1 ⟨[], [t.root]⟩ with root := (takeT t).1 } : Tr).nd (takeT t).1 = ⟨[], [t.root]⟩ ∧ ({ (takeT t).2.put (takeT t).1 ⟨[], [t.root]⟩ with root := (takeT t).1 } : Tr).nd t.root = t.nd t.root ∧
    (({ (takeT t).2.put (takeT t).1 ⟨[], [t.root]⟩ with root := (takeT t).1 } : Tr).ids (d + 1) (takeT t).1).length + (takeT t).2.free.length = (takeT t).2.nodes.length := by
  have hT := take_facts t h.frees
  obtain ⟨h1, h2, h3⟩ := took_new hT h
  obtain ⟨r, hr⟩ : ∃ r, r = (takeT t).1 := ⟨_, rfl⟩
  obtain ⟨t1, ht1⟩ : ∃ t1, t1 = (takeT t).2 := ⟨_, rfl⟩
  rw [← hr] at hT h1 h2 h3 ⊢
  rw [← ht1] at hT h3 ⊢
  have hrr : t.root ≠ r := fun e => h1 (e ▸ ids_self t d t.root)
  obtain ⟨t2, ht2⟩ : ∃ t2, t2 = ({ t1.put r ⟨[], [t.root]⟩ with root := r } : Tr) := ⟨_, rfl⟩
  rw [← ht2]
  have hlen : t2.nodes.length = t1.nodes.length := by rw [ht2]; exact put_len
  have nr : t2.nd r = ⟨[], [t.root]⟩ := by rw [ht2]; exact nd_put_same hT.rlt
  have nx : ∀ x, x ≠ r → t2.nd x = t.nd x := fun x hx => by
    have e : t2.nd x = (t1.put r ⟨[], [t.root]⟩).nd x := by rw [ht2]; rfl
    rw [e, nd_put_ne hx, hT.nd]
  have hs := sub_same (t := t) (t' := t2) (by rw [hlen]; exact hT.len) d t.root fun x hx => nx x (fun e => h1 (e ▸ hx))
  have hids : t2.ids (d + 1) r = r :: t.ids d t.root := by rw [Tr.ids, nr]; simp [hs.2.1]
  have hfree : t2.free = t1.free := by rw [ht2]; rfl
  refine ⟨⟨?_, ?_, fun f hf => ?_⟩, ?_, nr, nx _ hrr, ?_⟩
  · rw [Tr.ok, nr]
    refine ⟨by rw [hlen]; exact hT.rlt, rfl, by simp, fun k hk => ?_⟩
    rw [List.mem_singleton.1 hk]
    exact ⟨hs.2.2 h.ok, by rw [nx _ hrr]; omega⟩
  · rw [hids, hfree, List.cons_append, List.nodup_cons]
    have hnd : (t.ids d t.root ++ (r :: t1.free)).Nodup := by
      rw [List.nodup_append]
      have hn := h.nodup
      rw [List.nodup_append] at hn
      refine ⟨hn.1, ?_, fun x hx y hy => ?_⟩
      · rw [hT.perm.nodup_iff, List.nodup_append]
        refine ⟨hn.2.1, List.nodup_range', fun x hx y hy => ?_⟩
        rw [List.mem_range'_1] at hy
        have := (h.frees x hx).1
        omega
      · have := hT.perm.mem_iff.1 hy
        rw [List.mem_append, List.mem_range'_1] at this
        rcases this with h4 | h4
        · exact hn.2.2 x hx y h4
        · have := ids_lt _ _ h.ok x hx; omega
    rw [List.nodup_append] at hnd
    rw [List.nodup_append, List.mem_append]
    refine ⟨fun h5 => ?_, hnd.1, (List.nodup_cons.1 hnd.2.1).2, fun x hx y hy => hnd.2.2 x hx y (List.mem_cons_of_mem _ hy)⟩
    rcases h5 with h5 | h5
    · exact h1 h5
    · exact (List.nodup_cons.1 hnd.2.1).1 h5
  · rw [hfree] at hf
    obtain ⟨f1, f2⟩ := h3 f hf
    rw [nx f f1]
    rcases f2 with f2 | f2
    · exact ⟨by have := (h.frees f f2).1; have := hT.len; omega, (h.frees f f2).2⟩
    · refine ⟨?_, nd_out f2⟩
      have := hT.perm.mem_iff.1 (List.mem_cons_of_mem r hf)
      rw [List.mem_append, List.mem_range'_1] at this
      rcases this with h' | h'
      · have := (h.frees f h').1; have := hT.len; omega
      · have := hT.len; omega
  · rw [Tr.cont, nr]
    simp [weave, hs.1]
  · rw [hids]
    have := hT.perm.length_eq
    simp only [List.length_append, List.length_cons, List.length_range'] at this ⊢
    have := hT.len
    omega
theorem grow_law (h : t.wf d b) : ∃ d1, Grown t (growT t) d1 ∧ (growT t).cont d1 (growT t).root = t.cont d t.root ∧ d1 ≤ d + 1 := by
  unfold growT
  by_cases h9 : (t.nd t.root).ps.length = 9
  · rw [if_pos h9]
    obtain ⟨g1, g2, g3, g4, g5⟩ := top_good h.good h9 h.all
    have hgr : Gr t ({ (takeT t).2.put (takeT t).1 ⟨[], [t.root]⟩ with root := (takeT t).1 } : Tr) := (Gr.take t).trans ⟨Nat.le_refl _, .inl put_len⟩
    obtain ⟨t2, ht2⟩ : ∃ t2, t2 = ({ (takeT t).2.put (takeT t).1 ⟨[], [t.root]⟩ with root := (takeT t).1 } : Tr) := ⟨_, rfl⟩
    have hroot : t2.root = (takeT t).1 := by rw [ht2]
    have hmany : t2.many = t.many := by rw [ht2]; exact (take_facts t h.good.frees).many
    have hfl : (takeT t).2.free = t2.free ∧ (takeT t).2.nodes.length = t2.nodes.length := by rw [ht2]; exact ⟨rfl, put_len.symm⟩
    rw [← ht2] at g1 g2 g3 g4 g5 hgr ⊢
    rw [hfl.1, hfl.2] at g5
    rw [← hroot] at g1 g2 g3 g5 ⊢
    have hk : (t2.nd t2.root).ks = [] ++ t.root :: [] := by rw [g3]; rfl
    obtain ⟨q1, q2, q3, q4, _⟩ := split_law g1 hk (by rw [g4]; exact h9) (by rw [g3]; simp)
    refine ⟨d + 1, ⟨?_, ?_, ?_, ?_, by rw [← hmany]; exact q3, hgr.trans (Gr.split _ _ _)⟩, ?_, Nat.le_refl _⟩
    · have hr : (splitT t2 t2.root 0).root = t2.root := q1.root
      rw [hr]
      exact good_of_chg g1 q1
    · have hr := q1.root
      rw [show ([] : List Nat).length = 0 from rfl] at *
      rw [hr, q4, g3]
      simp [putL]
    · intro _
      have hr := q1.root
      rw [show ([] : List Nat).length = 0 from rfl] at *
      rw [hr, q4, g3]
      simp [putL]
    · have hr := q1.root
      have := chg_all q1 g5
      rw [show ([] : List Nat).length = 0 from rfl] at *
      rw [hr]
      exact this
    · have hr := q1.root
      rw [show ([] : List Nat).length = 0 from rfl] at *
      rw [hr, q2, g2]
  · rw [if_neg h9]
    exact ⟨d, ⟨h.good, by have := ok_ps h.good.ok; omega, h.top, h.all, rfl, Gr.refl t⟩, rfl, by omega⟩
theorem few_of (hg : t.Good d t.root) (hall : (t.ids d t.root).length + t.free.length = t.nodes.length) (hm : t.many = (t.cont d t.root).length) (m0 : Nat) (h : 4 * (t.nodes.length - 1) ≤ m0 ∨ t.free = []) : 4 * (t.nodes.length - 1) ≤ max m0 t.many := by
  rcases h with h | h
  · omega
  · have := root_ids hg.ok
    rw [h] at hall
    simp only [List.length_nil, Nat.add_zero] at hall
    rw [hm, ← hall]
    omega
/-- A put on the whole. -/
def setT (t : Tr) (k : Key) (n : Int) : Option (Tr × Int × Bool) := setO 801 (growT t) (growT t).root k n
structure SetWhole (t t' : Tr) (d most : Nat) (k : Key) (n : Int) : Prop where
  out : ∃ d', t'.wf d' (max most t'.many) ∧ t'.cont d' t'.root = insF (t.cont d t.root) k n ∧ d' ≤ d + 1
theorem set_whole (h : t.wf d b) (hd : d ≤ 390) (k : Key) (n : Int) : ∃ t', setT t k n = some (t', numF (t.cont d t.root) k, hasF (t.cont d t.root) k) ∧ SetWhole t t' d b k n := by
  obtain ⟨d1, hg, hcont, hd1⟩ := grow_law h
  unfold setT
  obtain ⟨t', e1, c, e2, e3, e4⟩ := (set_sub k n d1 (growT t) _ hg.good hg.room (by rw [hcont]; exact h.sorted) 801 (by omega)).out
  rw [hcont] at e1 e2 e3
  have hgr := hg.gr.trans (Gr.setO _ _ _ _ _ _ _ _ e1)
  have hroot : t'.root = (growT t).root := c.root
  have hgood : t'.Good d1 t'.root := by rw [hroot]; exact good_of_chg hg.good c
  have hall : (t'.ids d1 t'.root).length + t'.free.length = t'.nodes.length := by rw [hroot]; exact chg_all c hg.all
  have hmany : t'.many = (t'.cont d1 t'.root).length := by
    rw [hroot, e2, insF_length, e3, hg.many, h.many]
    split <;> rfl
  refine ⟨t', e1, d1, ⟨hgood, fun hn => by rw [hroot]; have := hg.top hn; omega, hall, by rw [hroot, e2]; exact insF_sorted h.sorted k n, hmany, by omega, ?_⟩, by rw [hroot, e2], hd1⟩
  refine few_of hgood hall hmany b ?_
  rcases hgr.2 with h2 | h2
  · left; rw [h2]; exact h.few
  · exact .inr h2
/-- A taking away from the whole. -/
def shrinkT (t : Tr) : Tr := if (t.nd t.root).ps.length = 0 ∧ 0 < (t.nd t.root).ks.length then dropT { t with root := (t.nd t.root).ks.getD 0 0 } t.root else t
def delT (t : Tr) (k : Key) : Option Tr := (remO 400 t t.root k).map fun t1 => shrinkT { t1 with many := t1.many - 1 }
theorem shrink_law (hg : t.Good d t.root) (hall : (t.ids d t.root).length + t.free.length = t.nodes.length) : ∃ d', (shrinkT t).Good d' (shrinkT t).root ∧ (d' ≠ 0 → 1 ≤ ((shrinkT t).nd (shrinkT t).root).ps.length) ∧
    ((shrinkT t).ids d' (shrinkT t).root).length + (shrinkT t).free.length = (shrinkT t).nodes.length ∧ (shrinkT t).cont d' (shrinkT t).root = t.cont d t.root ∧ (shrinkT t).many = t.many ∧ (shrinkT t).nodes.length = t.nodes.length ∧ d' ≤ d := by
  unfold shrinkT
  by_cases h : (t.nd t.root).ps.length = 0 ∧ 0 < (t.nd t.root).ks.length
  · rw [if_pos h]
    obtain ⟨h1, h2⟩ := h
    have hok := hg.ok
    cases d with
    | zero => rw [Tr.ok] at hok; rw [hok.2.1] at h2; simp at h2
    | succ d =>
      rw [Tr.ok] at hok
      obtain ⟨x, hx⟩ : ∃ x, (t.nd t.root).ks = [x] := List.length_eq_one_iff.1 (by omega)
      have hps : (t.nd t.root).ps = [] := List.eq_nil_of_length_eq_zero h1
      obtain ⟨gx, hrx, hrf, _⟩ := kids_apart hg (A := []) (B := []) (k := x) hx
      have hxk := hok.2.2.2 x (by rw [hx]; simp)
      have hgd : (t.nd t.root).ks.getD 0 0 = x := by rw [hx]; rfl
      rw [hgd]
      generalize t.root = r at *
      obtain ⟨t2, ht2⟩ : ∃ t2, t2 = dropT { t with root := x } r := ⟨_, rfl⟩
      rw [← ht2]
      have hlen : t2.nodes.length = t.nodes.length := by rw [ht2]; exact put_len
      have hroot : t2.root = x := by rw [ht2]; rfl
      have hfree : t2.free = t.free ++ [r] := by rw [ht2]; rfl
      have hmany : t2.many = t.many := by rw [ht2]; rfl
      have nx : ∀ y, y ≠ r → t2.nd y = t.nd y := fun y hy => by
        have e : t2.nd y = (t.put r noNod).nd y := by rw [ht2]; rfl
        rw [e, nd_put_ne hy]
      have nr : t2.nd r = noNod := by
        have e : t2.nd r = (t.put r noNod).nd r := by rw [ht2]; rfl
        rw [e, nd_put_same hok.1]
      have hs := sub_same (t := t) (t' := t2) (by omega) d x fun y hy => nx y (fun e => hrx (e ▸ hy))
      have hxr : x ≠ r := fun e => hrx (e ▸ ids_self t d x)
      rw [hroot]
      refine ⟨d, ⟨hs.2.2 hxk.1, ?_, fun f hf => ?_⟩, fun _ => by rw [nx x hxr]; omega, ?_, ?_, hmany, hlen, by omega⟩
      · have := gx.nodup
        rw [hs.2.1, hfree, ← List.append_assoc, List.nodup_append]
        refine ⟨this, by simp, fun y hy z hz => ?_⟩
        rw [List.mem_singleton.1 hz]
        rintro rfl
        rcases List.mem_append.1 hy with hy | hy
        · exact hrx hy
        · exact hrf hy
      · rw [hfree] at hf
        rcases List.mem_append.1 hf with hf | hf
        · rw [nx f (fun e => hrf (e ▸ hf)), hlen]; exact hg.frees f hf
        · rw [List.mem_singleton.1 hf, hlen]; exact ⟨hok.1, nr⟩
      · rw [hs.2.1, hfree, hlen, ← hall, Tr.ids, hx]
        simp
        omega
      · rw [hs.1, Tr.cont, hx, hps]
        simp [weave]
  · rw [if_neg h]
    refine ⟨d, hg, fun hd => ?_, hall, rfl, rfl, rfl, Nat.le_refl _⟩
    cases d with
    | zero => exact absurd rfl hd
    | succ d =>
      have hok := hg.ok
      rw [Tr.ok] at hok
      omega
theorem del_whole (h : t.wf d b) (hd : d ≤ 390) (k : Key) (hi : hasF (t.cont d t.root) k = true) : ∃ t', delT t k = some t' ∧ ∃ d', t'.wf d' b ∧ t'.cont d' t'.root = delF (t.cont d t.root) k ∧ d' ≤ d := by
  obtain ⟨t1, e1, c, e2, e3, e4, e5⟩ := (rem_sub d t t.root k h.good h.sorted hi h.top 400 (by omega) (by omega)).out
  have hg1 := good_of_chg h.good c
  have ha1 := chg_all c h.all
  obtain ⟨t2, ht2⟩ : ∃ t2, t2 = ({ t1 with many := t1.many - 1 } : Tr) := ⟨_, rfl⟩
  have hs := sub_same (t := t1) (t' := t2) (by rw [ht2]; exact Nat.le_refl _) d t.root (fun x _ => by rw [ht2]; rfl)
  have hr2 : t2.root = t.root := by rw [ht2]; exact c.root
  have hn2 : t2.nodes.length = t1.nodes.length := by rw [ht2]
  have hf2 : t2.free = t1.free := by rw [ht2]
  have hm2 : t2.many = t1.many - 1 := by rw [ht2]
  have hg2 : t2.Good d t2.root := by
    rw [hr2]
    exact ⟨hs.2.2 hg1.ok, by rw [hs.2.1, hf2]; exact hg1.nodup, fun f hf => by rw [hf2] at hf; rw [hn2]; exact ⟨(hg1.frees f hf).1, by rw [ht2]; exact (hg1.frees f hf).2⟩⟩
  obtain ⟨d', q1, q2, q3, q4, q5, q6, q7⟩ := shrink_law hg2 (by rw [hr2, hs.2.1, hf2, hn2]; exact ha1)
  refine ⟨shrinkT t2, by unfold delT; rw [e1, ht2]; rfl, d', ⟨q1, q2, q3, ?_, ?_, ?_, ?_⟩, ?_, q7⟩
  · rw [q4, hr2, hs.1, e2]; exact delF_sorted h.sorted k
  · rw [q5, q4, hr2, hs.1, e2, delF_length, hi, if_pos rfl, hm2, e3, h.many]
  · have := h.most; omega
  · rw [q6, hn2, e4]; exact h.few
  · rw [q4, hr2, hs.1, e2]
/-- How deep a tree may be. -/
theorem wf_depth (h : t.wf d b) (hm : t.many ≤ 1000) : d ≤ 3 := by
  cases d with
  | zero => omega
  | succ d =>
    have := root_pow h.good.ok (h.top (by omega))
    have h2 := h.many
    rcases Nat.lt_or_ge d 3 with h3 | h3
    · omega
    · have : 5 ^ 4 ≤ 5 ^ (d + 1) := Nat.pow_le_pow_right (by omega) (by omega)
      omega
end
end Go.Proofs.Yteoibolompiohaa
