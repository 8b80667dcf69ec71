/- The plain law of a taking away: the way down. No program in sight. Conditions: as each theorem says. -/
import Derived.Test.YteoibolompiohaaIdxF
namespace Go.Proofs.Yteoibolompiohaa

section
variable {t t' : Tr} {d a b : Nat} {n : Nod}
structure RemSaid (t : Tr) (d a : Nat) (k : Key) (r : Option Tr) : Prop where
  out : ∃ t', r = some t' ∧ Chg t t' d a ∧ t'.cont d a = delF (t.cont d a) k ∧ t'.many = t.many ∧ t'.nodes.length = t.nodes.length ∧ (t.nd a).ps.length ≤ (t'.nd a).ps.length + 1
theorem rem_leaf (h : t.Good 0 a) (k : Key) (hi : hasF (t.cont 0 a) k = true) (f : Nat) : RemSaid t 0 a k (remO (f + 1) t a k) := by
  have hok := h.ok
  rw [Tr.ok] at hok
  have hcc : t.cont 0 a = (t.nd a).ps := rfl
  rw [hcc] at hi
  obtain ⟨hl, _⟩ := hasF_lt hi
  obtain ⟨hc, hcont, hnd⟩ := put_law (n := ⟨cutL (t.nd a).ps (spotF (t.nd a).ps k), (t.nd a).ks⟩) h ⟨hok.2.1, by simp only [cutL_length _ _ hl]; omega⟩ rfl
  refine ⟨_, ?_, hc, ?_, rfl, put_len, ?_⟩
  · rw [remO, if_pos (by rw [hok.2.1]; rfl)]
  · rw [hcont, hcc]
    unfold delF
    rw [if_pos hi]; rfl
  · rw [hnd]; simp only [cutL_length _ _ hl]; omega
/-- What is ahead of a kid and behind it does not look at what is between. -/
theorem wpre_set : ∀ (Ls : List (List Pr)) (ps : List Pr) (i : Nat) (x : Pr), wpre Ls (ps.set i x) i = wpre Ls ps i := by
  intro Ls
  induction Ls with
  | nil => intro ps i x; cases ps <;> cases i <;> rfl
  | cons L Ls ih =>
    intro ps i x
    cases ps with
    | nil => rfl
    | cons p ps =>
      cases i with
      | zero => rfl
      | succ i => simp [wpre, ih]
theorem wpost_at : ∀ (Ls : List (List Pr)) (ps : List Pr) (i : Nat) (hi : i < ps.length) (_ : Ls.length = ps.length + 1), wpost Ls ps i = ps[i] :: weave (Ls.drop (i + 1)) (ps.drop (i + 1)) := by
  intro Ls
  induction Ls with
  | nil => intro ps i hi h; simp at h
  | cons L Ls ih =>
    intro ps i hi h
    cases ps with
    | nil => simp at hi
    | cons p ps =>
      cases i with
      | zero => rfl
      | succ i => simpa [wpost] using ih ps i (by simpa using hi) (by simpa using h)
theorem wpre_next : ∀ (Ls : List (List Pr)) (ps : List Pr) (i : Nat) (hi : i < ps.length) (h : Ls.length = ps.length + 1), wpre Ls ps (i + 1) = wpre Ls ps i ++ (Ls[i]'(by omega)) ++ [ps[i]] := by
  intro Ls
  induction Ls with
  | nil => intro ps i hi h; simp at h
  | cons L Ls ih =>
    intro ps i hi h
    cases ps with
    | nil => simp at hi
    | cons p ps =>
      cases i with
      | zero =>
        have : wpre Ls ps 0 = [] := by cases Ls <;> cases ps <;> rfl
        simp [wpre, this]
      | succ i =>
        have := ih ps i (by simpa using hi) (by simpa using h)
        rw [wpre, this, wpre]
        simp
theorem wpost_next : ∀ (Ls : List (List Pr)) (ps : List Pr) (i : Nat) (hi : i < ps.length) (h : Ls.length = ps.length + 1), wpost Ls ps i = ps[i] :: ((Ls[i + 1]'(by omega)) ++ wpost Ls ps (i + 1)) := by
  intro Ls ps i hi h
  rw [wpost_at Ls ps i hi h]
  congr 1
  have h2 : (Ls.drop (i + 1)).length = (ps.drop (i + 1)).length + 1 := by simp; omega
  rw [weave_split _ _ 0 h2 (by omega)]
  have e0 : wpre (Ls.drop (i + 1)) (ps.drop (i + 1)) 0 = [] := by cases Ls.drop (i + 1) <;> cases ps.drop (i + 1) <;> rfl
  have e1 : ∀ (Ls : List (List Pr)) (ps : List Pr) (i : Nat), wpost (Ls.drop i) (ps.drop i) 0 = wpost Ls ps i := by
    intro Ls
    induction Ls with
    | nil => intro ps i; cases ps <;> cases i <;> simp [wpost]
    | cons L Ls ihL =>
      intro ps i
      cases i with
      | zero => rfl
      | succ i =>
        cases ps with
        | nil =>
          simp only [List.drop_nil]
          generalize List.drop (i + 1) (L :: Ls) = M
          cases M <;> rfl
        | cons p ps => simpa [wpost] using ihL ps i
  rw [e0, e1]
  simp
/-- What a node has, parted at one of its pairs. -/
theorem cont_pair (h : t.Good (d + 1) a) {A B : List Nat} {l c : Nat} (hk : (t.nd a).ks = A ++ l :: c :: B) : ∃ X Y, t.cont (d + 1) a = X ++ t.cont d l ++ (t.nd a).ps.getD A.length pr0 :: (t.cont d c ++ Y) ∧
    X = wpre ((t.nd a).ks.map fun k => t.cont d k) (t.nd a).ps A.length ∧ Y = wpost ((t.nd a).ks.map fun k => t.cont d k) (t.nd a).ps (A.length + 1) := by
  have hpos := okN_pos h.ok hk
  have hok := h.ok
  rw [Tr.ok] at hok
  have hl : ((t.nd a).ks.map fun k => t.cont d k).length = (t.nd a).ps.length + 1 := by simp [hok.2.1]
  refine ⟨_, _, ?_, rfl, rfl⟩
  rw [cont_was h hk, wpost_next _ _ _ hpos hl, show (t.nd a).ps.getD A.length pr0 = (t.nd a).ps[A.length] by simp [List.getD, hpos]]
  congr 3
  simp [hk, List.getElem_append_right]
theorem rem_has (ih : ∀ (t : Tr) (a : Nat) (k : Key), t.Good d a → SortedK (t.cont d a) → hasF (t.cont d a) k = true → (d ≠ 0 → 1 ≤ (t.nd a).ps.length) → ∀ f, d + 1 ≤ f → d ≤ 390 → RemSaid t d a k (remO f t a k))
    (k : Key) (h : t.Good (d + 1) a) (hs : SortedK (t.cont (d + 1) a)) (f : Nat) (hf : d + 2 ≤ f + 1) (hd : d + 1 ≤ 390) (i : Nat) (hpl : i < (t.nd a).ps.length) (hpe : ((t.nd a).ps[i]).1 = k) (l c : Nat)
    (hk : (t.nd a).ks = (t.nd a).ks.take i ++ l :: c :: (t.nd a).ks.drop (i + 1 + 1)) :
    RemSaid t (d + 1) a k (if 4 < (t.nd l).ps.length then remO f (t.put a ⟨(t.nd a).ps.set i (endT t 400 l true), (t.nd a).ks⟩) l (endT t 400 l true).1
      else if 4 < (t.nd c).ps.length then remO f (t.put a ⟨(t.nd a).ps.set i (endT t 400 c false), (t.nd a).ks⟩) c (endT t 400 c false).1 else remO f (joinT t a i) l k) := by
  have hok := h.ok
  rw [Tr.ok] at hok
  have hlm : l ∈ (t.nd a).ks := by rw [hk]; simp
  have hcm : c ∈ (t.nd a).ks := by rw [hk]; simp
  have hAl : ((t.nd a).ks.take i).length = i := by simp; omega
  have hli : ∀ (q : i < (t.nd a).ks.length), ((t.nd a).ks.map fun k => t.cont d k)[i]'(by simpa using q) = t.cont d l := fun q => by
    rw [List.getElem_map]
    congr 1
    have e : (t.nd a).ks[i]? = some l := by rw [hk, List.getElem?_append_right (by omega), hAl, Nat.sub_self]; rfl
    rw [List.getElem?_eq_getElem q] at e
    exact Option.some.inj e
  have hci : ∀ (q : i + 1 < (t.nd a).ks.length), ((t.nd a).ks.map fun k => t.cont d k)[i + 1]'(by simpa using q) = t.cont d c := fun q => by
    rw [List.getElem_map]
    congr 1
    have e : (t.nd a).ks[i + 1]? = some c := by rw [hk, List.getElem?_append_right (by omega), hAl, show i + 1 - i = 1 by omega]; rfl
    rw [List.getElem?_eq_getElem q] at e
    exact Option.some.inj e
  obtain ⟨X, Y, hXY, hX, hY⟩ := cont_pair h hk
  rw [hAl] at hXY hX hY
  have hpi : (t.nd a).ps.getD i pr0 = (k, ((t.nd a).ps[i]).2) := by rw [List.getD_eq_getElem?_getD, List.getElem?_eq_getElem hpl]; exact Prod.ext hpe rfl
  rw [hpi] at hXY
  have hXk : ∀ p ∈ X ++ t.cont d l, kLt p.1 k = true := by
    have hs3 := hs
    rw [hXY, SortedK.append] at hs3
    exact fun p hp => hs3.2.2 p hp (k, ((t.nd a).ps[i]).2) (by simp)
  have hdel : delF (t.cont (d + 1) a) k = X ++ t.cont d l ++ (t.cont d c ++ Y) := by rw [hXY]; exact delF_at _ _ _ _ hXk
  have h44l : 4 ≤ (t.nd l).ps.length := (hok.2.2.2 l hlm).2
  have h44c : 4 ≤ (t.nd c).ps.length := (hok.2.2.2 c hcm).2
  by_cases c1 : 4 < (t.nd l).ps.length
  · rw [if_pos c1]
    obtain ⟨Z, hZ⟩ := (end_law d l (hok.2.2.2 l hlm).1 h44l 400 (by omega)).1
    generalize endT t 400 l true = x at *
    have hokN := ((ok_eq t (d + 1) a).1 h.ok).2
    obtain ⟨pc, pcont, pnd⟩ := put_law (n := ⟨(t.nd a).ps.set i x, (t.nd a).ks⟩) h (set_okN hokN _ _) (idsN_ps _ _ _)
    have hg1 := good_of_chg h pc
    have hplen : (t.put a ⟨(t.nd a).ps.set i x, (t.nd a).ks⟩).nodes.length = t.nodes.length := put_len
    have hpmany : (t.put a ⟨(t.nd a).ps.set i x, (t.nd a).ks⟩).many = t.many := rfl
    have hsame : ∀ y ∈ (t.nd a).ks, (t.put a ⟨(t.nd a).ps.set i x, (t.nd a).ks⟩).cont d y = t.cont d y ∧ (t.put a ⟨(t.nd a).ps.set i x, (t.nd a).ks⟩).nd y = t.nd y := fun y hy => by
      have hya : ∀ z ∈ t.ids d y, z ≠ a := fun z hz => (idsN_kids h z (by show z ∈ (t.nd a).ks.flatMap _; exact List.mem_flatMap.2 ⟨y, hy, hz⟩)).1
      exact ⟨(sub_same (by rw [put_len]; exact Nat.le_refl _) d y (fun z hz => nd_put_ne (hya z hz))).1, nd_put_ne (hya y (ids_self t d y))⟩
    generalize t.put a ⟨(t.nd a).ps.set i x, (t.nd a).ks⟩ = t1 at *
    have hk1 : (t1.nd a).ks = (t.nd a).ks.take i ++ l :: (c :: (t.nd a).ks.drop (i + 1 + 1)) := by rw [pnd]; exact hk
    obtain ⟨hgl, _⟩ := kids_apart hg1 hk1
    have hcl := (hsame l hlm).1
    have hndl := (hsame l hlm).2
    have hsl : SortedK (t.cont d l) := by rw [hXY, SortedK.append, SortedK.append] at hs; exact hs.1.2.1
    have hZx : ∀ p ∈ Z, kLt p.1 x.1 = true := by rw [hZ, SortedK.append] at hsl; exact fun p hp => hsl.2.2 p hp x (by simp)
    obtain ⟨t', e1, c1', e2, e3, e4, e5⟩ := (ih t1 l x.1 hgl (by rw [hcl]; exact hsl) (by rw [hcl, hZ]; exact hasF_at Z [] x.1 x.2 hZx) (fun _ => by rw [hndl]; omega) f (by omega) (by omega)).out
    obtain ⟨cu, hnd, _⟩ := Chg.up hg1 hk1 c1' (by rw [hndl] at e5; omega)
    refine ⟨t', e1, pc.trans cu, ?_, by rw [e3, hpmany], by rw [e4, hplen], ?_⟩
    · rw [cont_up hg1 hk1 c1' (by rw [hndl] at e5; omega), e2, hcl, hdel, hAl, pnd]
      simp only
      have hm : ((t.nd a).ks.map fun k => t1.cont d k) = (t.nd a).ks.map fun k => t.cont d k := List.map_congr_left fun y hy => (hsame y hy).1
      rw [hm, wpre_set, ← hX, wpost_next _ _ _ (by simpa using hpl) (by simpa using hok.2.1), show (t.cont d l) = Z ++ (x.1, x.2) :: [] from hZ, delF_at _ _ _ _ hZx]
      have hY2 : wpost ((t.nd a).ks.map fun k => t.cont d k) ((t.nd a).ps.set i x) (i + 1) = Y := by
        rw [hY]
        have hgen : ∀ (Ls : List (List Pr)) (ps : List Pr) (i : Nat), wpost Ls (ps.set i x) (i + 1) = wpost Ls ps (i + 1) := by
          intro Ls
          induction Ls with
          | nil => intro ps i; cases ps <;> cases i <;> rfl
          | cons L Ls ihL =>
            intro ps i
            cases ps with
            | nil => rfl
            | cons p ps =>
              cases i with
              | zero => rfl
              | succ i => simpa [wpost] using ihL ps i
        exact hgen _ _ _
      rw [hY2]
      rw [hci (by omega)]; simp
    · rw [hnd, pnd]; simp
  · rw [if_neg c1]
    by_cases c2 : 4 < (t.nd c).ps.length
    · rw [if_pos c2]
      obtain ⟨Z, hZ⟩ := (end_law d c (hok.2.2.2 c hcm).1 h44c 400 (by omega)).2
      generalize endT t 400 c false = x at *
      have hokN := ((ok_eq t (d + 1) a).1 h.ok).2
      obtain ⟨pc, pcont, pnd⟩ := put_law (n := ⟨(t.nd a).ps.set i x, (t.nd a).ks⟩) h (set_okN hokN _ _) (idsN_ps _ _ _)
      have hg1 := good_of_chg h pc
      have hplen : (t.put a ⟨(t.nd a).ps.set i x, (t.nd a).ks⟩).nodes.length = t.nodes.length := put_len
      have hpmany : (t.put a ⟨(t.nd a).ps.set i x, (t.nd a).ks⟩).many = t.many := rfl
      have hsame : ∀ y ∈ (t.nd a).ks, (t.put a ⟨(t.nd a).ps.set i x, (t.nd a).ks⟩).cont d y = t.cont d y ∧ (t.put a ⟨(t.nd a).ps.set i x, (t.nd a).ks⟩).nd y = t.nd y := fun y hy => by
        have hya : ∀ z ∈ t.ids d y, z ≠ a := fun z hz => (idsN_kids h z (by show z ∈ (t.nd a).ks.flatMap _; exact List.mem_flatMap.2 ⟨y, hy, hz⟩)).1
        exact ⟨(sub_same (by rw [put_len]; exact Nat.le_refl _) d y (fun z hz => nd_put_ne (hya z hz))).1, nd_put_ne (hya y (ids_self t d y))⟩
      generalize t.put a ⟨(t.nd a).ps.set i x, (t.nd a).ks⟩ = t1 at *
      have hk1 : (t1.nd a).ks = ((t.nd a).ks.take i ++ [l]) ++ c :: (t.nd a).ks.drop (i + 1 + 1) := by rw [pnd]; simpa using hk
      have hAl1 : ((t.nd a).ks.take i ++ [l]).length = i + 1 := by simp [hAl]
      obtain ⟨hgl, _⟩ := kids_apart hg1 hk1
      have hlm := hcm
      have hcl := (hsame c hlm).1
      have hndl := (hsame c hlm).2
      have hsl : SortedK (t.cont d c) := by rw [hXY, SortedK.append, SortedK.cons] at hs; exact (SortedK.append.1 hs.2.1.2).1
      obtain ⟨t', e1, c1', e2, e3, e4, e5⟩ := (ih t1 c x.1 hgl (by rw [hcl]; exact hsl) (by rw [hcl, hZ]; exact hasF_at [] Z x.1 x.2 (by simp)) (fun _ => by rw [hndl]; omega) f (by omega) (by omega)).out
      obtain ⟨cu, hnd, _⟩ := Chg.up hg1 hk1 c1' (by rw [hndl] at e5; omega)
      refine ⟨t', e1, pc.trans cu, ?_, by rw [e3, hpmany], by rw [e4, hplen], ?_⟩
      · rw [cont_up hg1 hk1 c1' (by rw [hndl] at e5; omega), e2, hcl, hdel, hAl1, pnd]
        simp only
        have hm : ((t.nd a).ks.map fun k => t1.cont d k) = (t.nd a).ks.map fun k => t.cont d k := List.map_congr_left fun y hy => (hsame y hy).1
        rw [hm, wpre_next _ _ _ (by simpa using hpl) (by simpa using hok.2.1), wpre_set, ← hX, show (t.cont d c) = [] ++ (x.1, x.2) :: Z from hZ, delF_at [] Z x.1 x.2 (by simp)]
        have hY2 : wpost ((t.nd a).ks.map fun k => t.cont d k) ((t.nd a).ps.set i x) (i + 1) = Y := by
          rw [hY]
          have hgen : ∀ (Ls : List (List Pr)) (ps : List Pr) (i : Nat), wpost Ls (ps.set i x) (i + 1) = wpost Ls ps (i + 1) := by
            intro Ls
            induction Ls with
            | nil => intro ps i; cases ps <;> cases i <;> rfl
            | cons L Ls ihL =>
              intro ps i
              cases ps with
              | nil => rfl
              | cons p ps =>
                cases i with
                | zero => rfl
                | succ i => simpa [wpost] using ihL ps i
          exact hgen _ _ _
        rw [hY2]
        rw [hli (by omega)]; simp
      · rw [hnd, pnd]; simp
    · rw [if_neg c2]
      obtain ⟨q1, q2, q3, q4, q5, q6, q7⟩ := join_law h hk (by omega)
      rw [hAl] at q1 q2 q3 q4 q5 q6 q7
      generalize joinT t a i = t1 at *
      have hg1 := good_of_chg h q1
      have hk1 : (t1.nd a).ks = (t.nd a).ks.take i ++ l :: (t.nd a).ks.drop (i + 1 + 1) := by rw [q5]
      obtain ⟨hgl, _⟩ := kids_apart hg1 hk1
      rw [hpi] at q7
      have hwas1 := cont_was hg1 hk1
      have hs1 := hs
      rw [← q2, hwas1, SortedK.append, SortedK.append] at hs1
      have hkl : ∀ p ∈ t.cont d l, kLt p.1 k = true := fun p hp => hXk p (by simp [hp])
      have h6 : 9 ≤ (t1.nd l).ps.length := by rw [q6]; simp; omega
      obtain ⟨t', e1, c1', e2, e3, e4, e5⟩ := (ih t1 l k hgl hs1.1.2.1 (by rw [q7]; exact hasF_at _ _ _ _ hkl) (fun _ => by omega) f (by omega) (by omega)).out
      obtain ⟨cu, hnd, _⟩ := Chg.up hg1 hk1 c1' (by omega)
      refine ⟨t', e1, q1.trans cu, ?_, by rw [e3, q3], by rw [e4, q4], ?_⟩
      · rw [cont_up hg1 hk1 c1' (by omega), e2, ← q2, hwas1]
        refine (delF_mid _ _ _ _ (fun p hp => ?_) (fun p hp => ?_)).symm
        · exact hs1.1.2.2 p hp (k, ((t.nd a).ps[i]).2) (by rw [q7]; simp)
        · exact hs1.2.2 (k, ((t.nd a).ps[i]).2) (by rw [q7]; simp) p hp
      · rw [hnd, q5]; simp only [cutL_length _ _ hpl]; omega
theorem rem_sub : ∀ (d : Nat) (t : Tr) (a : Nat) (k : Key), t.Good d a → SortedK (t.cont d a) → hasF (t.cont d a) k = true → (d ≠ 0 → 1 ≤ (t.nd a).ps.length) → ∀ f, d + 1 ≤ f → d ≤ 390 → RemSaid t d a k (remO f t a k) := by
  intro d
  induction d with
  | zero =>
    intro t a k h hs hi _ f hf _
    obtain ⟨f, rfl⟩ : ∃ g, f = g + 1 := ⟨f - 1, by omega⟩
    exact rem_leaf h k hi f
  | succ d ih =>
    intro t a k h hs hi h1 f hf hd
    obtain ⟨f, rfl⟩ : ∃ g, f = g + 1 := ⟨f - 1, by omega⟩
    have hok := h.ok
    rw [Tr.ok] at hok
    have hks : ¬ (t.nd a).ks.length = 0 := by omega
    have hl : ((t.nd a).ks.map fun k => t.cont d k).length = (t.nd a).ps.length + 1 := by simp [hok.2.1]
    have hsp := spot_kid h k
    have hg : ∀ j (hj : j < (t.nd a).ks.length), (t.nd a).ks.getD j 0 = (t.nd a).ks[j] := fun j hj => by simp [List.getD, hj]
    have h1' := h1 (by omega)
    rw [remO, if_neg hks]
    by_cases hn : hasF (t.nd a).ps k = false
    · rw [if_pos hn]
      have hw := weave_where _ _ k hl hs hn
      -- the key is in the kid
      have hin : ∃ p ∈ t.cont d (t.nd a).ks[spotF (t.nd a).ps k], p.1 = k := by
        have hk := split_at (t.nd a).ks (spotF (t.nd a).ps k) hsp
        have hAl : ((t.nd a).ks.take (spotF (t.nd a).ps k)).length = spotF (t.nd a).ps k := by simp; omega
        have hwas := cont_was h hk
        rw [hAl] at hwas
        rw [hwas] at hs hi
        rw [hasF_mid _ _ _ _ hw.1 hw.2] at hi
        rw [SortedK.append, SortedK.append] at hs
        exact (hasF_iff hs.1.2.1 k).1 hi
      obtain ⟨hF, hFc, hFm, hFl, hFf, A', c', B', hk', h5, hsubs⟩ := fill_law h h1' _ hsp
      generalize (fillT t a (spotF (t.nd a).ps k)).2 = t1 at *
      have hg1 := good_of_chg h hF
      have hok1 := hg1.ok
      rw [Tr.ok] at hok1
      have hl1 : ((t1.nd a).ks.map fun k => t1.cont d k).length = (t1.nd a).ps.length + 1 := by simp [hok1.2.1]
      have hAl1 : A'.length < (t1.nd a).ks.length := by rw [hk']; simp
      have hs1 : SortedK (t1.cont (d + 1) a) := by rw [hFc]; exact hs
      have hmap : ((t1.nd a).ks.map fun k => t1.cont d k)[A'.length]'(by simpa using hAl1) = t1.cont d c' := by simp [hk']
      obtain ⟨hsp1, hn1⟩ := weave_in _ _ k A'.length (by simpa using hAl1) hl1 hs1 (by
        obtain ⟨p, hp, e⟩ := hin
        exact ⟨p, by rw [hmap]; exact hsubs p hp, e⟩)
      have hgd : (t1.nd a).ks.getD A'.length 0 = c' := by rw [hk', getD_at]
      rw [hn1, if_neg (by simp), hsp1, hgd]
      obtain ⟨hgc, _⟩ := kids_apart hg1 hk'
      have hwas1 := cont_was hg1 hk'
      have hw1 := weave_where _ _ k hl1 hs1 hn1
      rw [hsp1] at hw1
      have hs2 := hs1
      rw [hwas1, SortedK.append, SortedK.append] at hs2
      have hi1 : hasF (t1.cont d c') k = true := by
        rw [hasF_iff hs2.1.2.1]
        obtain ⟨p, hp, e⟩ := hin
        exact ⟨p, hsubs p hp, e⟩
      obtain ⟨t', e1, c1, e2, e3, e4, e5⟩ := (ih t1 c' k hgc hs2.1.2.1 hi1 (fun _ => by omega) f (by omega) (by omega)).out
      obtain ⟨cu, hnd, _⟩ := Chg.up hg1 hk' c1 (by omega)
      refine ⟨t', e1, hF.trans cu, ?_, by rw [e3, hFm], by rw [e4, hFl], ?_⟩
      · rw [cont_up hg1 hk' c1 (by omega), e2, ← hFc, hwas1, delF_mid _ _ _ _ hw1.1 hw1.2]
      · rw [hnd]; exact hFf
    · rw [if_neg hn]
      rw [Bool.not_eq_false] at hn
      obtain ⟨hpl, hpe⟩ := hasF_lt hn
      have hk : (t.nd a).ks = (t.nd a).ks.take (spotF (t.nd a).ps k) ++ (t.nd a).ks[spotF (t.nd a).ps k] :: (t.nd a).ks[spotF (t.nd a).ps k + 1] :: (t.nd a).ks.drop (spotF (t.nd a).ps k + 1 + 1) := by
        rw [List.getElem_cons_drop, List.getElem_cons_drop, List.take_append_drop]
      have hi1 : spotF (t.nd a).ps k + 1 < (t.nd a).ks.length := by omega
      rw [hg _ hsp, hg _ hi1]
      exact rem_has ih k h hs f (by omega) hd _ hpl hpe _ _ hk
end
end Go.Proofs.Yteoibolompiohaa
