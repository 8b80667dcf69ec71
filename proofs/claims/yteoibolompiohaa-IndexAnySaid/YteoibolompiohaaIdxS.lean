/- The plain law of a put: a node taken, a full kid halved, the way down. No program in sight. Conditions: as each theorem says. -/
import Derived.Test.YteoibolompiohaaIdxT
namespace Go.Proofs.Yteoibolompiohaa

def takeT (t : Tr) : Nat × Tr := match t.free.getLast? with
  | some r => (r, { t with free := t.free.dropLast })
  | none => (t.nodes.length, { t with nodes := t.nodes ++ [noNod] })
structure Took (t : Tr) (r : Nat) (t1 : Tr) : Prop where
  nd : ∀ x, t1.nd x = t.nd x
  len : t.nodes.length ≤ t1.nodes.length
  rlt : r < t1.nodes.length
  rnd : t1.nd r = noNod
  perm : (r :: t1.free).Perm (t.free ++ List.range' t.nodes.length (t1.nodes.length - t.nodes.length))
  root : t1.root = t.root
  many : t1.many = t.many
theorem take_facts (t : Tr) (hf : ∀ f ∈ t.free, f < t.nodes.length ∧ t.nd f = noNod) : Took t (takeT t).1 (takeT t).2 := by
  unfold takeT
  cases e : t.free.getLast? with
  | none =>
    have e0 : t.free = [] := List.getLast?_eq_none_iff.1 e
    have hnd : ∀ x, ({ t with nodes := t.nodes ++ [noNod] } : Tr).nd x = t.nd x := fun x => by
      unfold Tr.nd
      simp only [List.getD_eq_getElem?_getD]
      by_cases h : x < t.nodes.length
      · rw [List.getElem?_append_left h]
      · rw [List.getElem?_append_right (by omega), List.getElem?_eq_none (by omega : t.nodes.length ≤ x)]
        by_cases h2 : x - t.nodes.length = 0
        · rw [h2]; rfl
        · rw [List.getElem?_eq_none (by simp; omega)]
    refine ⟨hnd, by simp, by simp, ?_, ?_, rfl, rfl⟩
    · simp only; rw [hnd, nd_out (Nat.le_refl _)]
    · simp [e0]
  | some r =>
    obtain ⟨l, hl⟩ := List.getLast?_eq_some_iff.1 e
    have hr := hf r (by rw [hl]; simp)
    refine ⟨fun _ => rfl, Nat.le_refl _, hr.1, hr.2, ?_, rfl, rfl⟩
    simp only [Nat.sub_self, List.range'_zero, List.append_nil]
    rw [hl, List.dropLast_concat]
    exact (List.perm_append_singleton r l).symm
section
variable {t t' : Tr} {d a b : Nat} {n : Nod}
theorem took_new {r : Nat} {t1 : Tr} (k : Took t r t1) (h : t.Good d a) : r ∉ t.ids d a ∧ (r ∈ t.free ∨ t.nodes.length ≤ r) ∧ ∀ f ∈ t1.free, f ≠ r ∧ (f ∈ t.free ∨ t.nodes.length ≤ f) := by
  have hr : r ∈ t.free ∨ t.nodes.length ≤ r := by
    have := k.perm.mem_iff.1 (List.mem_cons_self)
    rw [List.mem_append, List.mem_range'_1] at this
    rcases this with h | h
    · exact .inl h
    · exact .inr h.1
  have hn := h.nodup
  rw [List.nodup_append] at hn
  refine ⟨fun h1 => ?_, hr, fun f hf => ?_⟩
  · rcases hr with hr | hr
    · exact hn.2.2 r h1 r hr rfl
    · have := ids_lt _ _ h.ok r h1; omega
  · have hnd : (r :: t1.free).Nodup := by
      rw [k.perm.nodup_iff, List.nodup_append]
      refine ⟨hn.2.1, List.nodup_range', fun x hx y hy => ?_⟩
      rw [List.mem_range'_1] at hy
      have := (h.frees x hx).1
      omega
    rw [List.nodup_cons] at hnd
    refine ⟨fun e => hnd.1 (e ▸ hf), ?_⟩
    have := k.perm.mem_iff.1 (List.mem_cons_of_mem r hf)
    rw [List.mem_append, List.mem_range'_1] at this
    rcases this with h | h
    · exact .inl h
    · exact .inr h.1
/-! A node parted. -/
theorem contN_part (ps1 : List Pr) (m : Pr) (ps2 : List Pr) (ks1 ks2 : List Nat) (h : d = 0 ∨ ks1.length = ps1.length + 1) : t.contN d ⟨ps1 ++ m :: ps2, ks1 ++ ks2⟩ = t.contN d ⟨ps1, ks1⟩ ++ m :: t.contN d ⟨ps2, ks2⟩ := by
  cases d with
  | zero => rfl
  | succ d =>
    simp only [Tr.contN, List.map_append]
    exact weave_append _ _ _ _ _ (by simpa using h)
theorem idsN_part (ps1 : List Pr) (ks1 ks2 : List Nat) (ps2 ps3 : List Pr) : t.idsN d ⟨ps1, ks1 ++ ks2⟩ = t.idsN d ⟨ps2, ks1⟩ ++ t.idsN d ⟨ps3, ks2⟩ := by
  cases d with
  | zero => rfl
  | succ d => simp [Tr.idsN, List.flatMap_append]
def splitT (t : Tr) (a i : Nat) : Tr :=
  (((takeT t).2.put (takeT t).1 ⟨(t.nd ((t.nd a).ks.getD i 0)).ps.drop 5, (t.nd ((t.nd a).ks.getD i 0)).ks.drop 5⟩).put ((t.nd a).ks.getD i 0) ⟨(t.nd ((t.nd a).ks.getD i 0)).ps.take 4, (t.nd ((t.nd a).ks.getD i 0)).ks.take 5⟩).put a
    ⟨putL (t.nd a).ps i ((t.nd ((t.nd a).ks.getD i 0)).ps.getD 4 ([], 0)), putL (t.nd a).ks (i + 1) (takeT t).1⟩
theorem getD_at (A : List Nat) (c : Nat) (B : List Nat) : (A ++ c :: B).getD A.length 0 = c := by simp [List.getD]
theorem putL_after (A : List Nat) (c : Nat) (B : List Nat) (x : Nat) : putL (A ++ c :: B) (A.length + 1) x = A ++ c :: x :: B := by
  unfold putL
  rw [List.take_append, List.drop_append, List.take_of_length_le (by omega), List.drop_of_length_le (by omega)]
  simp
theorem nine (l : List Pr) (h : l.length = 9) : l = l.take 4 ++ l.getD 4 ([], 0) :: l.drop 5 := by
  match l, h with
  | [_, _, _, _, _, _, _, _, _], _ => rfl
/-- What is left of a full node, and what is taken off. -/
theorem full_parts {K : Nod} (h : t.okN d K) (h9 : K.ps.length = 9) : t.okN d ⟨K.ps.take 4, K.ks.take 5⟩ ∧ t.okN d ⟨K.ps.drop 5, K.ks.drop 5⟩ ∧
    t.contN d K = t.contN d ⟨K.ps.take 4, K.ks.take 5⟩ ++ K.ps.getD 4 ([], 0) :: t.contN d ⟨K.ps.drop 5, K.ks.drop 5⟩ ∧ t.idsN d K = t.idsN d ⟨K.ps.take 4, K.ks.take 5⟩ ++ t.idsN d ⟨K.ps.drop 5, K.ks.drop 5⟩ := by
  have e1 := nine K.ps h9
  have e2 : K = ⟨K.ps.take 4 ++ K.ps.getD 4 ([], 0) :: K.ps.drop 5, K.ks.take 5 ++ K.ks.drop 5⟩ := by rw [← e1, List.take_append_drop]
  refine ⟨?_, ?_, ?_, ?_⟩
  · cases d with
    | zero => exact ⟨by simp [h.1], by simp; omega⟩
    | succ d =>
      have hk := h.1
      exact ⟨by simp; omega, by simp; omega, fun k hk => h.2.2 k (List.mem_of_mem_take hk)⟩
  · cases d with
    | zero => exact ⟨by simp [h.1], by simp; omega⟩
    | succ d =>
      have hk := h.1
      exact ⟨by simp; omega, by simp; omega, fun k hk => h.2.2 k (List.mem_of_mem_drop hk)⟩
  · conv => lhs; rw [e2]
    refine contN_part _ _ _ _ _ ?_
    cases d with
    | zero => exact .inl rfl
    | succ d => have := h.1; exact .inr (by simp; omega)
  · conv => lhs; rw [e2]
    exact idsN_part _ _ _ _ _
theorem idsN_kids (h : t.Good d a) : ∀ x ∈ t.idsN d (t.nd a), x ≠ a ∧ x ∉ t.free ∧ x < t.nodes.length := by
  intro x hx
  have hn := h.nodup
  have hlt := ids_lt _ _ h.ok x (by rw [ids_eq]; exact List.mem_cons_of_mem _ hx)
  rw [ids_eq, List.cons_append, List.nodup_cons, List.nodup_append] at hn
  exact ⟨fun e => hn.1 (List.mem_append_left _ (by subst e; exact hx)), fun hf => hn.2.2.2 x hx x hf rfl, hlt⟩
theorem split_law (h : t.Good (d + 1) a) {A B : List Nat} {c : Nat} (hk : (t.nd a).ks = A ++ c :: B) (h9 : (t.nd c).ps.length = 9) (h8 : (t.nd a).ps.length ≤ 8) :
    Chg t (splitT t a A.length) (d + 1) a ∧ (splitT t a A.length).cont (d + 1) a = t.cont (d + 1) a ∧ (splitT t a A.length).many = t.many ∧
    (splitT t a A.length).nd a = ⟨putL (t.nd a).ps A.length ((t.nd c).ps.getD 4 ([], 0)), A ++ c :: (takeT t).1 :: B⟩ ∧ ((splitT t a A.length).nd c).ps.length = 4 ∧ ((splitT t a A.length).nd (takeT t).1).ps.length = 4 ∧
    (splitT t a A.length).nodes.length = (takeT t).2.nodes.length := by
  have hT := take_facts t h.frees
  obtain ⟨hra, hrw, hrf⟩ := took_new hT h
  obtain ⟨hgc, hac, haf, hx⟩ := kids_apart h hk
  have hcids : ∀ y ∈ t.ids d c, y ∈ t.ids (d + 1) a := fun y hy => by rw [Tr.ids, hk]; simp [hy]
  have hrc : (takeT t).1 ∉ t.ids d c := fun hh => hra (hcids _ hh)
  have hok := h.ok
  rw [Tr.ok] at hok
  have hokc := ((ok_eq t d c).1 hgc.ok)
  obtain ⟨hL, hR, hcont, hids⟩ := full_parts hokc.2 h9
  have hcself := ids_self t d c
  have hca : c ≠ a := fun e => hac (e ▸ hcself)
  have hcr : c ≠ (takeT t).1 := fun e => hrc (e ▸ hcself)
  have har : a ≠ (takeT t).1 := fun e => hra (e ▸ ids_self t _ a)
  have hkid := idsN_kids hgc
  have hgetD : (t.nd a).ks.getD A.length 0 = c := by rw [hk, getD_at]
  obtain ⟨r, hr⟩ : ∃ r, r = (takeT t).1 := ⟨_, rfl⟩
  obtain ⟨t1, ht1⟩ : ∃ t1, t1 = (takeT t).2 := ⟨_, rfl⟩
  have hpl : putL (t.nd a).ks (A.length + 1) (takeT t).1 = A ++ c :: (takeT t).1 :: B := by rw [hk, putL_after]
  have hs : splitT t a A.length = ((t1.put r ⟨(t.nd c).ps.drop 5, (t.nd c).ks.drop 5⟩).put c ⟨(t.nd c).ps.take 4, (t.nd c).ks.take 5⟩).put a ⟨putL (t.nd a).ps A.length ((t.nd c).ps.getD 4 ([], 0)), A ++ c :: r :: B⟩ := by
    unfold splitT; rw [hgetD, hpl, ht1, hr]
  rw [← hr, ← ht1] at hT
  rw [← hr] at hrc hcr har hra hrw hrf hpl
  rw [← ht1] at hrf
  rw [hs, ← hr, ← ht1]
  clear hs hgetD
  obtain ⟨L, hLd⟩ : ∃ L, L = (⟨(t.nd c).ps.take 4, (t.nd c).ks.take 5⟩ : Nod) := ⟨_, rfl⟩
  obtain ⟨R, hRd⟩ : ∃ R, R = (⟨(t.nd c).ps.drop 5, (t.nd c).ks.drop 5⟩ : Nod) := ⟨_, rfl⟩
  obtain ⟨Pn, hPd⟩ : ∃ P, P = (⟨putL (t.nd a).ps A.length ((t.nd c).ps.getD 4 ([], 0)), A ++ c :: r :: B⟩ : Nod) := ⟨_, rfl⟩
  have hL4 : L.ps.length = 4 := by rw [hLd]; simp; omega
  have hR4 : R.ps.length = 4 := by rw [hRd]; simp; omega
  rw [← hLd, ← hRd] at hcont hids
  rw [← hLd] at hL
  rw [← hRd] at hR
  rw [← hLd, ← hRd, ← hPd]
  obtain ⟨t2, ht2⟩ : ∃ t2, t2 = ((t1.put r R).put c L).put a Pn := ⟨_, rfl⟩
  rw [← ht2]
  have hl2 : t2.nodes.length = t1.nodes.length := by rw [ht2, put_len, put_len, put_len]
  have hclt : c < t1.nodes.length := by have := hokc.1; have := hT.len; omega
  have halt : a < t1.nodes.length := by have := hok.1; have := hT.len; omega
  have na : t2.nd a = Pn := by rw [ht2]; exact nd_put_same (by rw [put_len, put_len]; exact halt)
  have nc : t2.nd c = L := by rw [ht2, nd_put_ne hca]; exact nd_put_same (by rw [put_len]; exact hclt)
  have nr : t2.nd r = R := by rw [ht2, nd_put_ne (Ne.symm har), nd_put_ne (Ne.symm hcr)]; exact nd_put_same hT.rlt
  have nx : ∀ x, x ≠ a → x ≠ c → x ≠ r → t2.nd x = t.nd x := fun x h1 h2 h3 => by rw [ht2, nd_put_ne h1, nd_put_ne h2, nd_put_ne h3, hT.nd]
  have hlen : t.nodes.length ≤ t2.nodes.length := by rw [hl2]; exact hT.len
  have hNin : ∀ (M : Nod), (∀ x ∈ t.idsN d M, x ∈ t.idsN d (t.nd c)) → ∀ x ∈ t.idsN d M, t2.nd x = t.nd x := fun M hM x hxm => by
    have h1 := hkid x (hM x hxm)
    have h2 : x ∈ t.ids d c := by rw [ids_eq]; exact List.mem_cons_of_mem _ (hM x hxm)
    exact nx x (fun e => hac (e ▸ h2)) h1.1 (fun e => hrc (e ▸ h2))
  have sL := subN_same (n := L) (d := d) hlen (hNin L (fun x hx => by rw [hids]; simp [hx]))
  have sR := subN_same (n := R) (d := d) hlen (hNin R (fun x hx => by rw [hids]; simp [hx]))
  have hAB : ∀ x ∈ A ++ B, ∀ y ∈ t.ids d x, y ∈ t.ids (d + 1) a := fun x hxm y hy => by
    rw [Tr.ids, hk]
    refine List.mem_cons_of_mem _ (List.mem_flatMap.2 ⟨x, ?_, hy⟩)
    rcases List.mem_append.1 hxm with h | h
    · exact List.mem_append_left _ h
    · exact List.mem_append_right _ (List.mem_cons_of_mem _ h)
  have hsub : ∀ x ∈ A ++ B, t2.cont d x = t.cont d x ∧ t2.ids d x = t.ids d x ∧ (t.ok d x → t2.ok d x) := fun x hxm =>
    sub_same hlen d x fun y hy => by
      obtain ⟨h1, h2, h3, h4⟩ := hx x hxm y hy
      exact nx y h4 (fun e => h1 (e ▸ hcself)) (fun e => hra (e ▸ hAB x hxm y hy))
  have hsnd : ∀ x ∈ A ++ B, t2.nd x = t.nd x := fun x hxm => by
    have hxs := ids_self t d x
    obtain ⟨h1, h2, h3, h4⟩ := hx x hxm x hxs
    exact nx x h4 (fun e => h1 (e ▸ hcself)) (fun e => hra (e ▸ hAB x hxm x hxs))
  have hmem : ∀ x ∈ A ++ B, x ∈ (t.nd a).ks := fun x hx => by
    rw [hk]
    rcases List.mem_append.1 hx with hx | hx
    · exact List.mem_append_left _ hx
    · exact List.mem_append_right _ (List.mem_cons_of_mem _ hx)
  have hAl : A.length ≤ (t.nd a).ps.length := by have := hok.2.1; rw [hk] at this; simp at this; omega
  refine ⟨⟨?_, hlen, ?_, fun x h1 h2 h3 => ?_, fun f hf => ?_, ?_⟩, ?_, ?_, na, by rw [nc]; exact hL4, by rw [nr]; exact hR4, hl2⟩
  · rw [ht2]; exact hT.root
  · have eA : A.flatMap (fun k => t2.ids d k) = A.flatMap fun k => t.ids d k := flatMap_same fun x hxm => (hsub x (List.mem_append_left _ hxm)).2.1
    have eB : B.flatMap (fun k => t2.ids d k) = B.flatMap fun k => t.ids d k := flatMap_same fun x hxm => (hsub x (List.mem_append_right _ hxm)).2.1
    have ef : t2.free = t1.free := by rw [ht2]; rfl
    rw [Tr.ids, Tr.ids, na, hPd, hk, List.flatMap_append, List.flatMap_cons, List.flatMap_cons, List.flatMap_append, List.flatMap_cons, eA, eB, ids_eq t2 d c, nc, ids_eq t2 d r, nr, sL.2.1, sR.2.1, ids_eq t d c, hids, ef, hl2]
    have hp := hT.perm
    rw [List.perm_iff_count] at hp ⊢
    intro x
    have := hp x
    simp only [List.cons_append, List.count_cons, List.count_append] at *
    omega
  · refine nx x (fun e => h1 (by subst e; exact ids_self t _ _)) (fun e => h1 (by subst e; exact hcids _ hcself)) (fun e => ?_)
    rcases hrw with h | h
    · exact h2 (e ▸ h)
    · omega
  · have ef : t2.free = t1.free := by rw [ht2]; rfl
    rw [ef] at hf
    obtain ⟨h1, h2⟩ := hrf f hf
    have hfl : f < t1.nodes.length := by
      rcases h2 with h2 | h2
      · have := (h.frees f h2).1; have := hT.len; omega
      · have := hT.perm.mem_iff.1 (List.mem_cons_of_mem r hf)
        rw [List.mem_append, List.mem_range'_1] at this
        rcases this with h' | h'
        · have := (h.frees f h').1; have := hT.len; omega
        · have := hT.len; omega
    have hfa : f ≠ a := fun e => by
      rcases h2 with h2 | h2
      · exact haf (e ▸ h2)
      · have := hok.1; omega
    have hfc : f ≠ c := fun e => by
      rcases h2 with h2 | h2
      · have hn := hgc.nodup
        rw [List.nodup_append] at hn
        exact hn.2.2 c hcself c (e ▸ h2) rfl
      · have := hokc.1; omega
    refine ⟨by rw [hl2]; exact hfl, ?_⟩
    rw [nx f hfa hfc h1]
    rcases h2 with h2 | h2
    · exact (h.frees f h2).2
    · exact nd_out h2
  · rw [Tr.ok, na, hPd]
    have hkl := hok.2.1
    rw [hk] at hkl
    simp only [List.length_append, List.length_cons] at hkl
    refine ⟨by rw [hl2]; exact halt, by simp only [putL_length, List.length_append, List.length_cons]; omega, by simp only [putL_length]; omega, fun k hkm => ?_⟩
    have okc : t2.ok d c := (ok_eq _ _ _).2 ⟨by omega, by rw [nc]; exact sL.2.2 hL⟩
    have okr : t2.ok d r := (ok_eq _ _ _).2 ⟨by have := hT.rlt; omega, by rw [nr]; exact sR.2.2 hR⟩
    by_cases e : k = c
    · subst e; exact ⟨okc, by rw [nc]; omega⟩
    by_cases e2 : k = r
    · subst e2; exact ⟨okr, by rw [nr]; omega⟩
    have hkab : k ∈ A ++ B := by
      simp only [List.mem_append, List.mem_cons] at hkm ⊢
      rcases hkm with h | h | h | h
      · exact .inl h
      · exact absurd h e
      · exact absurd h e2
      · exact .inr h
    refine ⟨(hsub k hkab).2.2 (hok.2.2.2 k (hmem k hkab)).1, ?_⟩
    rw [hsnd k hkab]
    exact (hok.2.2.2 k (hmem k hkab)).2
  · have mA : A.map (fun k => t2.cont d k) = A.map fun k => t.cont d k := List.map_congr_left fun x hxm => (hsub x (List.mem_append_left _ hxm)).1
    have mB : B.map (fun k => t2.cont d k) = B.map fun k => t.cont d k := List.map_congr_left fun x hxm => (hsub x (List.mem_append_right _ hxm)).1
    rw [Tr.cont, Tr.cont, na, hPd, hk]
    simp only [List.map_append, List.map_cons]
    rw [mA, mB, cont_eq t2 d c, nc, cont_eq t2 d r, nr, sL.1, sR.1, cont_eq t d c, hcont]
    unfold putL
    rw [← weave_part _ _ _ _ _ _ _ (by simp; omega), List.take_append_drop]
  · rw [ht2]; exact hT.many
end
end Go.Proofs.Yteoibolompiohaa
