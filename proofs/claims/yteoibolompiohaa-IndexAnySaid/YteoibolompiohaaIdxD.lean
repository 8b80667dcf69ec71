/- The plain law of a taking away: two kids that share out anew, two that become one. No program in sight. Conditions: as each theorem says. -/
import Derived.Test.YteoibolompiohaaIdxU
namespace Go.Proofs.Yteoibolompiohaa

def pr0 : Pr := ([], 0)
def dropT (t : Tr) (r : Nat) : Tr := { t.put r noNod with free := t.free ++ [r] }
def joinT (t : Tr) (a i : Nat) : Tr :=
  dropT ((t.put ((t.nd a).ks.getD i 0) ⟨(t.nd ((t.nd a).ks.getD i 0)).ps ++ (t.nd a).ps.getD i pr0 :: (t.nd ((t.nd a).ks.getD (i + 1) 0)).ps, (t.nd ((t.nd a).ks.getD i 0)).ks ++ (t.nd ((t.nd a).ks.getD (i + 1) 0)).ks⟩).put a
    ⟨cutL (t.nd a).ps i, cutL (t.nd a).ks (i + 1)⟩) ((t.nd a).ks.getD (i + 1) 0)
section
variable {t t' : Tr} {d a b : Nat} {n : Nod}
/-- Two neighbours among the kids. -/
theorem kids_two (h : t.Good (d + 1) a) {A B : List Nat} {l c : Nat} (hk : (t.nd a).ks = A ++ l :: c :: B) :
    t.Good d l ∧ t.Good d c ∧ a ∉ t.ids d l ∧ a ∉ t.ids d c ∧ a ∉ t.free ∧ (∀ y ∈ t.ids d l, y ∉ t.ids d c) ∧ ∀ x ∈ A ++ B, ∀ y ∈ t.ids d x, y ∉ t.ids d l ∧ y ∉ t.ids d c ∧ y ∉ t.free ∧ y < t.nodes.length ∧ y ≠ a := by
  obtain ⟨h1, h2, h3, h4⟩ := kids_apart h hk
  have hk2 : (t.nd a).ks = (A ++ [l]) ++ c :: B := by rw [hk]; simp
  obtain ⟨g1, g2, g3, g4⟩ := kids_apart h hk2
  refine ⟨h1, g1, h2, g2, h3, fun y hy => (g4 l (by simp) y hy).1, fun x hx y hy => ?_⟩
  obtain ⟨q1, q2, q3, q4⟩ := h4 x (by rcases List.mem_append.1 hx with h | h <;> simp [h]) y hy
  exact ⟨q1, (g4 x (by rcases List.mem_append.1 hx with h | h <;> simp [h]) y hy).1, q2, q3, q4⟩
theorem okN_pos (h : t.ok (d + 1) a) {A B : List Nat} {l c : Nat} (hk : (t.nd a).ks = A ++ l :: c :: B) : A.length < (t.nd a).ps.length := by
  rw [Tr.ok] at h
  have := h.2.1
  rw [hk] at this
  simp at this
  omega
/-- Two neighbours share out anew what they and what is between them have. -/
theorem shift_law (h : t.Good (d + 1) a) {A B : List Nat} {l c : Nat} (hk : (t.nd a).ks = A ++ l :: c :: B) (L C : Nod) (m : Pr) (hL : t.okN d L) (hC : t.okN d C) (h4L : 4 ≤ L.ps.length) (h4C : 4 ≤ C.ps.length)
    (hids : (t.idsN d L ++ t.idsN d C).Perm (t.idsN d (t.nd l) ++ t.idsN d (t.nd c))) (hcont : t.contN d L ++ m :: t.contN d C = t.contN d (t.nd l) ++ (t.nd a).ps.getD A.length pr0 :: t.contN d (t.nd c))
    (ht' : t'.nodes.length = t.nodes.length ∧ t'.free = t.free ∧ t'.root = t.root ∧ t'.nd a = ⟨(t.nd a).ps.set A.length m, (t.nd a).ks⟩ ∧ t'.nd l = L ∧ t'.nd c = C ∧ ∀ x, x ≠ a → x ≠ l → x ≠ c → t'.nd x = t.nd x) :
    Chg t t' (d + 1) a ∧ t'.cont (d + 1) a = t.cont (d + 1) a ∧ t'.cont d l = t.contN d L ∧ t'.cont d c = t.contN d C := by
  obtain ⟨hgl, hgc, hal, hac, haf, hlc, hx⟩ := kids_two h hk
  obtain ⟨hlen, hfree, hroot, na, nl, nc, nx⟩ := ht'
  have hok := h.ok
  have hpos := okN_pos hok hk
  rw [Tr.ok] at hok
  have hle : t.nodes.length ≤ t'.nodes.length := by omega
  have hls := ids_self t d l
  have hcs := ids_self t d c
  have hkl := idsN_kids hgl
  have hkc := idsN_kids hgc
  have hin : ∀ x, x ∈ t.idsN d (t.nd l) ∨ x ∈ t.idsN d (t.nd c) → t'.nd x = t.nd x := fun x hxm => by
    rcases hxm with hxm | hxm
    · have h2 : x ∈ t.ids d l := by rw [ids_eq]; exact List.mem_cons_of_mem _ hxm
      exact nx x (fun e => hal (e ▸ h2)) (hkl x hxm).1 (fun e => hlc x h2 (by subst e; exact hcs))
    · have h2 : x ∈ t.ids d c := by rw [ids_eq]; exact List.mem_cons_of_mem _ hxm
      exact nx x (fun e => hac (e ▸ h2)) (fun e => hlc l hls (by subst e; exact h2)) (hkc x hxm).1
  have hin2 : ∀ x, x ∈ t.idsN d L ∨ x ∈ t.idsN d C → t'.nd x = t.nd x := fun x hxm => hin x (by
    have := hids.mem_iff.1 (List.mem_append.2 hxm)
    exact List.mem_append.1 this)
  have sL := subN_same (n := L) (d := d) hle fun x hxm => hin2 x (.inl hxm)
  have sC := subN_same (n := C) (d := d) hle fun x hxm => hin2 x (.inr hxm)
  have hsub : ∀ x ∈ A ++ B, t'.cont d x = t.cont d x ∧ t'.ids d x = t.ids d x ∧ (t.ok d x → t'.ok d x) := fun x hxm =>
    sub_same hle d x fun y hy => by
      obtain ⟨h1, h2, h3, _, h4⟩ := hx x hxm y hy
      exact nx y h4 (fun e => h1 (by subst e; exact hls)) (fun e => h2 (by subst e; exact hcs))
  have hsnd : ∀ x ∈ A ++ B, t'.nd x = t.nd x := fun x hxm => by
    obtain ⟨h1, h2, h3, _, h4⟩ := hx x hxm x (ids_self t d x)
    exact nx x h4 (fun e => h1 (by subst e; exact hls)) (fun e => h2 (by subst e; exact hcs))
  have eA : A.flatMap (fun k => t'.ids d k) = A.flatMap fun k => t.ids d k := flatMap_same fun x hxm => (hsub x (List.mem_append_left _ hxm)).2.1
  have eB : B.flatMap (fun k => t'.ids d k) = B.flatMap fun k => t.ids d k := flatMap_same fun x hxm => (hsub x (List.mem_append_right _ hxm)).2.1
  have mA : A.map (fun k => t'.cont d k) = A.map fun k => t.cont d k := List.map_congr_left fun x hxm => (hsub x (List.mem_append_left _ hxm)).1
  have mB : B.map (fun k => t'.cont d k) = B.map fun k => t.cont d k := List.map_congr_left fun x hxm => (hsub x (List.mem_append_right _ hxm)).1
  have cl : t'.cont d l = t.contN d L := by rw [cont_eq, nl, sL.1]
  have cc : t'.cont d c = t.contN d C := by rw [cont_eq, nc, sC.1]
  refine ⟨⟨hroot, hle, ?_, fun x h1 h2 h3 => ?_, fun f hf => ?_, ?_⟩, ?_, cl, cc⟩
  · rw [Tr.ids, Tr.ids, na, hk]
    simp only [List.flatMap_append, List.flatMap_cons]
    rw [eA, eB, ids_eq t' d l, nl, ids_eq t' d c, nc, sL.2.1, sC.2.1, ids_eq t d l, ids_eq t d c, hfree, hlen, Nat.sub_self]
    have hp := hids
    rw [List.perm_iff_count] at hp ⊢
    intro x
    have := hp x
    simp only [List.cons_append, List.count_cons, List.count_append, List.range'_zero, List.append_nil] at *
    omega
  · have hsub2 : ∀ k, k = l ∨ k = c → ∀ y ∈ t.ids d k, y ∈ t.ids (d + 1) a := fun k hkk y hy => by
      rw [Tr.ids, hk]
      refine List.mem_cons_of_mem _ (List.mem_flatMap.2 ⟨k, ?_, hy⟩)
      rcases hkk with rfl | rfl <;> simp
    exact nx x (fun e => h1 (by subst e; exact ids_self t _ _)) (fun e => h1 (by subst e; exact hsub2 _ (.inl rfl) _ hls)) (fun e => h1 (by subst e; exact hsub2 _ (.inr rfl) _ hcs))
  · rw [hfree] at hf
    obtain ⟨h1, h2⟩ := h.frees f hf
    refine ⟨by omega, ?_⟩
    rw [nx f (fun e => haf (e ▸ hf)) (fun e => ?_) (fun e => ?_), h2]
    · have := hgl.nodup
      rw [List.nodup_append] at this
      exact this.2.2 _ hls _ (e ▸ hf) rfl
    · have := hgc.nodup
      rw [List.nodup_append] at this
      exact this.2.2 _ hcs _ (e ▸ hf) rfl
  · rw [Tr.ok, na]
    refine ⟨by have := hok.1; omega, by simpa using hok.2.1, by simpa using hok.2.2.1, fun k hkm => ?_⟩
    by_cases e : k = l
    · subst e; exact ⟨(ok_eq _ _ _).2 ⟨by have := ok_lt hgl.ok; omega, by rw [nl]; exact sL.2.2 hL⟩, by rw [nl]; exact h4L⟩
    by_cases e2 : k = c
    · subst e2; exact ⟨(ok_eq _ _ _).2 ⟨by have := ok_lt hgc.ok; omega, by rw [nc]; exact sC.2.2 hC⟩, by rw [nc]; exact h4C⟩
    have hkab : k ∈ A ++ B := by
      simp only [hk, List.mem_append, List.mem_cons] at hkm ⊢
      rcases hkm with h | h | h | h
      · exact .inl h
      · exact absurd h e
      · exact absurd h e2
      · exact .inr h
    refine ⟨(hsub k hkab).2.2 (hok.2.2.2 k hkm).1, ?_⟩
    rw [hsnd k hkab]
    exact (hok.2.2.2 k hkm).2
  · have e1 : (t.nd a).ps = (t.nd a).ps.take A.length ++ (t.nd a).ps.getD A.length pr0 :: (t.nd a).ps.drop (A.length + 1) := by
      rw [show (t.nd a).ps.getD A.length pr0 = (t.nd a).ps[A.length] by simp [List.getD, hpos], List.getElem_cons_drop, List.take_append_drop]
    have e2 : (t.nd a).ps.set A.length m = (t.nd a).ps.take A.length ++ m :: (t.nd a).ps.drop (A.length + 1) := by rw [List.set_eq_take_append_cons_drop, if_pos hpos]
    have hlA : (A.map fun k => t.cont d k).length = ((t.nd a).ps.take A.length).length := by simp; omega
    rw [Tr.cont, Tr.cont, na]
    simp only
    rw [e2, hk]
    conv => rhs; rw [e1]
    simp only [List.map_append, List.map_cons]
    rw [mA, mB, cl, cc, ← weave_part _ _ _ _ _ _ _ hlA, ← weave_part _ _ _ _ _ _ _ hlA, hcont, cont_eq t d l, cont_eq t d c]
/-- Two neighbours become one. -/
theorem join_law (h : t.Good (d + 1) a) {A B : List Nat} {l c : Nat} (hk : (t.nd a).ks = A ++ l :: c :: B) (h9 : (t.nd l).ps.length + (t.nd c).ps.length + 1 ≤ 9) :
    Chg t (joinT t a A.length) (d + 1) a ∧ (joinT t a A.length).cont (d + 1) a = t.cont (d + 1) a ∧ (joinT t a A.length).many = t.many ∧ (joinT t a A.length).nodes.length = t.nodes.length ∧
    (joinT t a A.length).nd a = ⟨cutL (t.nd a).ps A.length, A ++ l :: B⟩ ∧ (joinT t a A.length).nd l = ⟨(t.nd l).ps ++ (t.nd a).ps.getD A.length pr0 :: (t.nd c).ps, (t.nd l).ks ++ (t.nd c).ks⟩ ∧
    (joinT t a A.length).cont d l = t.cont d l ++ (t.nd a).ps.getD A.length pr0 :: t.cont d c := by
  obtain ⟨hgl, hgc, hal, hac, haf, hlc, hx⟩ := kids_two h hk
  have hok := h.ok
  have hpos := okN_pos hok hk
  rw [Tr.ok] at hok
  have hls := ids_self t d l
  have hcs := ids_self t d c
  have hkl := idsN_kids hgl
  have hkc := idsN_kids hgc
  have hla : l ≠ a := fun e => hal (e ▸ hls)
  have hca : c ≠ a := fun e => hac (e ▸ hcs)
  have hlc' : l ≠ c := fun e => hlc l hls (by rw [e]; exact hcs)
  have hokl := (ok_eq t d l).1 hgl.ok
  have hokc := (ok_eq t d c).1 hgc.ok
  have hg1 : (t.nd a).ks.getD A.length 0 = l := by rw [hk, getD_at]
  have hg2 : (t.nd a).ks.getD (A.length + 1) 0 = c := by
    have := getD_at (A ++ [l]) c B
    rw [List.length_append, List.append_assoc] at this
    rw [hk]; exact this
  have hcut : cutL (t.nd a).ks (A.length + 1) = A ++ l :: B := by
    rw [hk]; unfold cutL
    rw [List.take_append, List.drop_append, List.take_of_length_le (by omega), List.drop_of_length_le (by omega), show A.length + 1 - A.length = 1 by omega, show A.length + 1 + 1 - A.length = 2 by omega]
    simp
  obtain ⟨m, hm⟩ : ∃ m, m = (t.nd a).ps.getD A.length pr0 := ⟨_, rfl⟩
  obtain ⟨J, hJ⟩ : ∃ J, J = (⟨(t.nd l).ps ++ m :: (t.nd c).ps, (t.nd l).ks ++ (t.nd c).ks⟩ : Nod) := ⟨_, rfl⟩
  obtain ⟨Pn, hPn⟩ : ∃ J, J = (⟨cutL (t.nd a).ps A.length, A ++ l :: B⟩ : Nod) := ⟨_, rfl⟩
  have hjt : joinT t a A.length = dropT ((t.put l J).put a Pn) c := by unfold joinT; rw [hg1, hg2, hcut, ← hm, ← hJ, ← hPn]
  rw [hjt, ← hm, ← hJ, ← hPn]
  obtain ⟨t2, ht2⟩ : ∃ t2, t2 = dropT ((t.put l J).put a Pn) c := ⟨_, rfl⟩
  rw [← ht2]
  have hlen : t2.nodes.length = t.nodes.length := by rw [ht2]; show (((t.put l J).put a Pn).put c noNod).nodes.length = _; rw [put_len, put_len, put_len]
  have hllt := hokl.1
  have hclt := hokc.1
  have nnd : ∀ x, t2.nd x = (((t.put l J).put a Pn).put c noNod).nd x := fun x => by rw [ht2]; rfl
  have na : t2.nd a = Pn := by rw [nnd, nd_put_ne (Ne.symm hca)]; exact nd_put_same (by rw [put_len]; exact hok.1)
  have nl : t2.nd l = J := by rw [nnd, nd_put_ne hlc', nd_put_ne hla]; exact nd_put_same hllt
  have nc : t2.nd c = noNod := by rw [nnd]; exact nd_put_same (by rw [put_len, put_len]; exact hclt)
  have nx : ∀ x, x ≠ a → x ≠ l → x ≠ c → t2.nd x = t.nd x := fun x h1 h2 h3 => by rw [nnd, nd_put_ne h3, nd_put_ne h1, nd_put_ne h2]
  have hle : t.nodes.length ≤ t2.nodes.length := by omega
  have hidsJ : t.idsN d J = t.idsN d (t.nd l) ++ t.idsN d (t.nd c) := by rw [hJ]; exact idsN_part _ _ _ _ _
  have hokJ : t.okN d J := by
    rw [hJ]
    cases d with
    | zero => exact ⟨by simp [hokl.2.1, hokc.2.1], by simp; omega⟩
    | succ d =>
      have k1 := hokl.2
      have k2 := hokc.2
      exact ⟨by have := k1.1; have := k2.1; simp; omega, by simp; omega, fun k hkm => by
        rcases List.mem_append.1 hkm with h | h
        · exact k1.2.2 k h
        · exact k2.2.2 k h⟩
  have hcontJ : t.contN d J = t.contN d (t.nd l) ++ m :: t.contN d (t.nd c) := by
    rw [hJ]
    refine contN_part _ _ _ _ _ ?_
    cases d with
    | zero => exact .inl rfl
    | succ d => exact .inr hokl.2.1
  have hin : ∀ x ∈ t.idsN d J, t2.nd x = t.nd x := fun x hxm => by
    rw [hidsJ] at hxm
    rcases List.mem_append.1 hxm with hxm | hxm
    · have h2 : x ∈ t.ids d l := by rw [ids_eq]; exact List.mem_cons_of_mem _ hxm
      exact nx x (fun e => hal (e ▸ h2)) (hkl x hxm).1 (fun e => hlc x h2 (by subst e; exact hcs))
    · have h2 : x ∈ t.ids d c := by rw [ids_eq]; exact List.mem_cons_of_mem _ hxm
      exact nx x (fun e => hac (e ▸ h2)) (fun e => hlc l hls (by subst e; exact h2)) (hkc x hxm).1
  have sJ := subN_same (n := J) (d := d) hle hin
  have hsub : ∀ x ∈ A ++ B, t2.cont d x = t.cont d x ∧ t2.ids d x = t.ids d x ∧ (t.ok d x → t2.ok d x) := fun x hxm =>
    sub_same hle d x fun y hy => by
      obtain ⟨h1, h2, h3, _, h4⟩ := hx x hxm y hy
      exact nx y h4 (fun e => h1 (by subst e; exact hls)) (fun e => h2 (by subst e; exact hcs))
  have hsnd : ∀ x ∈ A ++ B, t2.nd x = t.nd x := fun x hxm => by
    obtain ⟨h1, h2, h3, _, h4⟩ := hx x hxm x (ids_self t d x)
    exact nx x h4 (fun e => h1 (by subst e; exact hls)) (fun e => h2 (by subst e; exact hcs))
  have eA : A.flatMap (fun k => t2.ids d k) = A.flatMap fun k => t.ids d k := flatMap_same fun x hxm => (hsub x (List.mem_append_left _ hxm)).2.1
  have eB : B.flatMap (fun k => t2.ids d k) = B.flatMap fun k => t.ids d k := flatMap_same fun x hxm => (hsub x (List.mem_append_right _ hxm)).2.1
  have mA : A.map (fun k => t2.cont d k) = A.map fun k => t.cont d k := List.map_congr_left fun x hxm => (hsub x (List.mem_append_left _ hxm)).1
  have mB : B.map (fun k => t2.cont d k) = B.map fun k => t.cont d k := List.map_congr_left fun x hxm => (hsub x (List.mem_append_right _ hxm)).1
  have cl : t2.cont d l = t.cont d l ++ m :: t.cont d c := by rw [cont_eq t2, nl, sJ.1, hcontJ, cont_eq t d l, cont_eq t d c]
  have hcsub : ∀ k, k = l ∨ k = c → ∀ y ∈ t.ids d k, y ∈ t.ids (d + 1) a := fun k hkk y hy => by
    rw [Tr.ids, hk]
    refine List.mem_cons_of_mem _ (List.mem_flatMap.2 ⟨k, ?_, hy⟩)
    rcases hkk with rfl | rfl <;> simp
  have hfree : t2.free = t.free ++ [c] := by rw [ht2]; rfl
  have hlA : (A.map fun k => t.cont d k).length = ((t.nd a).ps.take A.length).length := by simp; omega
  refine ⟨⟨by rw [ht2]; rfl, hle, ?_, fun x h1 h2 h3 => ?_, fun f hf => ?_, ?_⟩, ?_, by rw [ht2]; rfl, hlen, na, nl, cl⟩
  · rw [Tr.ids, Tr.ids, na, hPn, hk]
    simp only [List.flatMap_append, List.flatMap_cons]
    rw [eA, eB, ids_eq t2 d l, nl, sJ.2.1, hidsJ, ids_eq t d l, ids_eq t d c, hfree, hlen, Nat.sub_self, List.perm_iff_count]
    intro x
    simp only [List.cons_append, List.count_cons, List.count_append, List.range'_zero, List.append_nil, List.count_nil]
    omega
  · exact nx x (fun e => h1 (by subst e; exact ids_self t _ _)) (fun e => h1 (by subst e; exact hcsub _ (.inl rfl) _ hls)) (fun e => h1 (by subst e; exact hcsub _ (.inr rfl) _ hcs))
  · rw [hfree] at hf
    rcases List.mem_append.1 hf with hf | hf
    · obtain ⟨h1, h2⟩ := h.frees f hf
      refine ⟨by omega, ?_⟩
      rw [nx f (fun e => haf (e ▸ hf)) (fun e => ?_) (fun e => ?_), h2]
      · have := hgl.nodup
        rw [List.nodup_append] at this
        exact this.2.2 _ hls _ (e ▸ hf) rfl
      · have := hgc.nodup
        rw [List.nodup_append] at this
        exact this.2.2 _ hcs _ (e ▸ hf) rfl
    · rw [List.mem_singleton.1 hf]
      exact ⟨by omega, nc⟩
  · rw [Tr.ok, na, hPn]
    have hkl2 := hok.2.1
    rw [hk] at hkl2
    simp only [List.length_append, List.length_cons] at hkl2
    refine ⟨by have := hok.1; omega, by simp only [cutL_length _ _ hpos, List.length_append, List.length_cons]; omega, by simp only [cutL_length _ _ hpos]; omega, fun k hkm => ?_⟩
    by_cases e : k = l
    · subst e; exact ⟨(ok_eq _ _ _).2 ⟨by omega, by rw [nl]; exact sJ.2.2 hokJ⟩, by rw [nl, hJ]; have := (hok.2.2.2 k (by rw [hk]; simp)).2; simp; omega⟩
    have hkab : k ∈ A ++ B := by
      simp only [List.mem_append, List.mem_cons] at hkm ⊢
      rcases hkm with h | h | h
      · exact .inl h
      · exact absurd h e
      · exact .inr h
    have hmem : k ∈ (t.nd a).ks := by
      rw [hk]
      rcases List.mem_append.1 hkab with h | h <;> simp [h]
    refine ⟨(hsub k hkab).2.2 (hok.2.2.2 k hmem).1, ?_⟩
    rw [hsnd k hkab]
    exact (hok.2.2.2 k hmem).2
  · have e1 : (t.nd a).ps = (t.nd a).ps.take A.length ++ m :: (t.nd a).ps.drop (A.length + 1) := by
      rw [hm, show (t.nd a).ps.getD A.length pr0 = (t.nd a).ps[A.length] by simp [List.getD, hpos], List.getElem_cons_drop, List.take_append_drop]
    rw [Tr.cont, Tr.cont, na, hPn]
    simp only
    rw [hk]
    conv => rhs; rw [e1]
    simp only [List.map_append, List.map_cons]
    rw [mA, mB, cl, ← weave_part _ _ _ _ _ _ _ hlA]
    rfl
end
end Go.Proofs.Yteoibolompiohaa
