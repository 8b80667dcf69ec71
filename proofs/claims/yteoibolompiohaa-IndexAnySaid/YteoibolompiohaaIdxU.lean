/- The plain law of a put: the way down from a node. No program in sight. Conditions: as each theorem says. -/
import Derived.Test.YteoibolompiohaaIdxS
namespace Go.Proofs.Yteoibolompiohaa

/-- The way down of a put: f steps at most. -/
def setO : Nat → Tr → Nat → Key → Int → Option (Tr × Int × Bool)
  | 0, _, _, _, _ => none
  | f + 1, t, a, k, n =>
    if hasF (t.nd a).ps k = true then some (t.put a ⟨(t.nd a).ps.set (spotF (t.nd a).ps k) (k, n), (t.nd a).ks⟩, numF (t.nd a).ps k, true)
    else if (t.nd a).ks.length = 0 then some ({ t.put a ⟨putL (t.nd a).ps (spotF (t.nd a).ps k) (k, n), (t.nd a).ks⟩ with many := t.many + 1 }, 0, false)
    else if (t.nd ((t.nd a).ks.getD (spotF (t.nd a).ps k) 0)).ps.length = 9 then setO f (splitT t a (spotF (t.nd a).ps k)) a k n
    else setO f t ((t.nd a).ks.getD (spotF (t.nd a).ps k) 0) k n
section
variable {t t' : Tr} {d a b : Nat} {n : Nod}
theorem idsN_same_put (h : t.Good d a) (M : Nod) (hM : ∀ x ∈ t.idsN d n, x ≠ a) : (t.put a M).contN d n = t.contN d n ∧ (t.put a M).idsN d n = t.idsN d n ∧ (t.okN d n → (t.put a M).okN d n) :=
  subN_same (by rw [put_len]; exact Nat.le_refl _) fun x hx => nd_put_ne (hM x hx)
/-- A node put anew whose kids are those that it had, in whatever order of its own. -/
theorem put_law (h : t.Good d a) (hok : t.okN d n) (hids : t.idsN d n = t.idsN d (t.nd a)) : Chg t (t.put a n) d a ∧ (t.put a n).cont d a = t.contN d n ∧ (t.put a n).nd a = n := by
  have hlt := ok_lt h.ok
  have hna : (t.put a n).nd a = n := nd_put_same hlt
  have hk := idsN_kids h
  have hs := idsN_same_put (n := n) h n (fun x hx => (hk x (by rw [← hids]; exact hx)).1)
  refine ⟨⟨rfl, by rw [put_len]; exact Nat.le_refl _, ?_, fun x h1 _ _ => nd_put_ne (fun e => h1 (by subst e; exact ids_self t d _)), fun f hf => ?_, (ok_eq _ _ _).2 ⟨by rw [put_len]; exact hlt, by rw [hna]; exact hs.2.2 hok⟩⟩, ?_, hna⟩
  · rw [ids_eq, hna, hs.2.1, hids, put_len, Nat.sub_self, ids_eq]
    simp
    rfl
  · obtain ⟨h1, h2⟩ := h.frees f hf
    refine ⟨by rw [put_len]; exact h1, ?_⟩
    rw [nd_put_ne, h2]
    rintro rfl
    have := h.nodup
    rw [List.nodup_append] at this
    exact this.2.2 _ (ids_self t d _) _ hf rfl
  · rw [cont_eq, hna, hs.1]
theorem set_okN (h : t.okN d n) (i : Nat) (p : Pr) : t.okN d ⟨n.ps.set i p, n.ks⟩ := by
  cases d with
  | zero => exact ⟨h.1, by simpa using h.2⟩
  | succ d => exact ⟨by simpa using h.1, by simpa using h.2.1, h.2.2⟩
theorem idsN_ps (ps ps' : List Pr) (ks : List Nat) : t.idsN d ⟨ps, ks⟩ = t.idsN d ⟨ps', ks⟩ := by cases d <;> rfl
theorem many_chg (c : Chg t t' d a) (m : Nat) : Chg t { t' with many := m } d a ∧ ({ t' with many := m } : Tr).cont d a = t'.cont d a := by
  have hs := sub_same (t := t') (t' := { t' with many := m }) (Nat.le_refl _) d a (fun _ _ => rfl)
  exact ⟨⟨c.root, c.len, by rw [hs.2.1]; exact c.perm, c.far, c.frees, hs.2.2 c.ok⟩, hs.1⟩
/-- What a put below a node comes to. -/
structure SetSaid (t : Tr) (d a : Nat) (k : Key) (n : Int) (r : Option (Tr × Int × Bool)) : Prop where
  out : ∃ t', r = some (t', numF (t.cont d a) k, hasF (t.cont d a) k) ∧ Chg t t' d a ∧ t'.cont d a = insF (t.cont d a) k n ∧ t'.many = t.many + (if hasF (t.cont d a) k = true then 0 else 1) ∧
    (t.nd a).ps.length ≤ (t'.nd a).ps.length
theorem set_here (k : Key) (n : Int) (h : t.Good d a) (hs : SortedK (t.cont d a)) (hi : hasF (t.nd a).ps k = true) (f : Nat) : SetSaid t d a k n (setO (f + 1) t a k n) := by
  have hok := (ok_eq t d a).1 h.ok
  obtain ⟨hc, hcont, hnd⟩ := put_law (n := ⟨(t.nd a).ps.set (spotF (t.nd a).ps k) (k, n), (t.nd a).ks⟩) h (set_okN hok.2 _ _) (idsN_ps _ _ _)
  have hw : ∃ A B v, t.cont d a = A ++ (k, v) :: B ∧ numF (t.nd a).ps k = v ∧ (∀ p ∈ A, kLt p.1 k = true) ∧ t.contN d ⟨(t.nd a).ps.set (spotF (t.nd a).ps k) (k, n), (t.nd a).ks⟩ = A ++ (k, n) :: B := by
    cases d with
    | zero =>
      obtain ⟨hl, e⟩ := hasF_lt hi
      have hs0 : SortedK (t.nd a).ps := hs
      have hA := (sorted_part hs0 k).1
      refine ⟨(t.nd a).ps.take (spotF (t.nd a).ps k), (t.nd a).ps.drop (spotF (t.nd a).ps k + 1), ((t.nd a).ps[spotF (t.nd a).ps k]).2, ?_, ?_, hA, ?_⟩
      · rw [show (k, ((t.nd a).ps[spotF (t.nd a).ps k]).2) = (t.nd a).ps[spotF (t.nd a).ps k] from Prod.ext e.symm rfl, List.getElem_cons_drop, List.take_append_drop]; rfl
      · unfold numF; rw [List.getElem?_eq_getElem hl]; simp [e]
      · simp only [Tr.contN]
        rw [List.set_eq_take_append_cons_drop, if_pos hl]
    | succ d =>
      have hl : ((t.nd a).ks.map fun k => t.cont d k).length = (t.nd a).ps.length + 1 := by have := h.ok; rw [Tr.ok] at this; simp [this.2.1]
      obtain ⟨A, B, v, h1, h2, h3, h4, _⟩ := weave_is _ _ k hl hs hi
      refine ⟨A, B, v, h2, ?_, h3, h4 _⟩
      unfold numF; rw [h1]; simp
  obtain ⟨A, B, v, e1, e2, hA, e3⟩ := hw
  refine ⟨_, ?_, hc, ?_, ?_, ?_⟩
  · rw [setO, if_pos hi, e2, e1, numF_at _ _ _ _ hA, hasF_at _ _ _ _ hA]
  · rw [hcont, e3, e1, insF_at _ _ _ _ _ hA]
  · rw [e1, hasF_at _ _ _ _ hA]; rfl
  · rw [hnd]; simp
theorem set_leaf (k : Key) (n : Int) (h : t.Good 0 a) (h8 : (t.nd a).ps.length ≤ 8) (hi : hasF (t.nd a).ps k = false) (f : Nat) : SetSaid t 0 a k n (setO (f + 1) t a k n) := by
  have hok := h.ok
  rw [Tr.ok] at hok
  obtain ⟨hc, hcont, hnd⟩ := put_law (n := ⟨putL (t.nd a).ps (spotF (t.nd a).ps k) (k, n), (t.nd a).ks⟩) h ⟨hok.2.1, by simp only [putL_length]; omega⟩ rfl
  obtain ⟨hc2, hcont2⟩ := many_chg hc (t.many + 1)
  have hnum : numF (t.nd a).ps k = 0 := by
    unfold numF hasF at *
    split
    · rename_i p hp
      rw [hp] at hi
      rw [if_neg (of_decide_eq_false hi)]
    · rfl
  have hcc : t.cont 0 a = (t.nd a).ps := rfl
  refine ⟨_, ?_, hc2, ?_, ?_, ?_⟩
  · rw [setO, hi, if_neg (by simp), if_pos (by rw [hok.2.1]; rfl), hcc, hi, hnum]
  · rw [hcont2, hcont, hcc]
    unfold insF
    rw [hi]
    rfl
  · rw [hcc, hi]; rfl
  · show (t.nd a).ps.length ≤ ((t.put a _).nd a).ps.length
    rw [hnd]; simp only [putL_length]; omega
theorem spot_kid (h : t.Good (d + 1) a) (k : Key) : spotF (t.nd a).ps k < (t.nd a).ks.length := by
  have hok := h.ok
  rw [Tr.ok] at hok
  have := spotF_le (t.nd a).ps k
  omega
/-- Where the kid isn't full, the way goes on there. -/
theorem set_down (k : Key) (n : Int) (h : t.Good (d + 1) a) (hs : SortedK (t.cont (d + 1) a)) (f : Nat) (h8 : hasF (t.nd a).ps k = false → (t.nd ((t.nd a).ks.getD (spotF (t.nd a).ps k) 0)).ps.length ≤ 8)
    (ih : ∀ c, t.Good d c → (t.nd c).ps.length ≤ 8 → SortedK (t.cont d c) → SetSaid t d c k n (setO f t c k n)) : SetSaid t (d + 1) a k n (setO (f + 1) t a k n) := by
  by_cases hi : hasF (t.nd a).ps k = true
  · exact set_here k n h hs hi f
  rw [Bool.not_eq_true] at hi
  have hok := h.ok
  rw [Tr.ok] at hok
  have hsp := spot_kid h k
  have hk := split_at (t.nd a).ks (spotF (t.nd a).ps k) hsp
  have hg : (t.nd a).ks.getD (spotF (t.nd a).ps k) 0 = (t.nd a).ks[spotF (t.nd a).ps k] := by simp [List.getD, hsp]
  have h8 := h8 hi
  rw [hg] at h8
  have hAl : ((t.nd a).ks.take (spotF (t.nd a).ps k)).length = spotF (t.nd a).ps k := by simp; omega
  obtain ⟨hgc, _⟩ := kids_apart h hk
  have hl : ((t.nd a).ks.map fun k => t.cont d k).length = (t.nd a).ps.length + 1 := by simp [hok.2.1]
  have hw := weave_where _ _ k hl hs hi
  have hwas := cont_was h hk
  rw [hAl] at hwas
  have hsc : SortedK (t.cont d (t.nd a).ks[spotF (t.nd a).ps k]) := by
    rw [hwas, SortedK.append, SortedK.append] at hs; exact hs.1.2.1
  obtain ⟨t', e1, hc, e2, e3, e4⟩ := (ih _ hgc h8 hsc).out
  have h44 := (hok.2.2.2 _ (List.getElem_mem hsp)).2
  obtain ⟨hcu, hnd, _⟩ := Chg.up h hk hc (by omega)
  have hup := cont_up h hk hc (by omega)
  rw [hAl] at hup
  refine ⟨t', ?_, hcu, ?_, ?_, by rw [hnd]; exact Nat.le_refl _⟩
  · rw [setO, hi, if_neg (by simp), if_neg (by omega), hg, if_neg (by omega), e1, hwas, numF_mid _ _ _ _ hw.1 hw.2, hasF_mid _ _ _ _ hw.1 hw.2]
  · rw [hup, e2, hwas, insF_mid _ _ _ _ _ hw.1 hw.2]
  · rw [e3, hwas, hasF_mid _ _ _ _ hw.1 hw.2]
theorem spotF_put (l : List Pr) (k : Key) (m : Pr) : spotF (putL l (spotF l k) m) k = spotF l k ∨ spotF (putL l (spotF l k) m) k = spotF l k + 1 := by
  have hle := spotF_le l k
  have h1 : ∀ p ∈ l.take (spotF l k), kLt p.1 k = true := fun p hp => by
    obtain ⟨i, hi, rfl⟩ := List.getElem_of_mem hp
    rw [List.length_take] at hi
    rw [List.getElem_take]
    exact spotF_lt (by omega) (by omega)
  unfold putL
  rw [spotF_ahead _ _ _ h1, spotF_cons, List.length_take, Nat.min_eq_left hle]
  split
  · right
    have h2 : spotF (l.drop (spotF l k)) k = 0 := by
      by_cases hl : spotF l k < l.length
      · rw [← List.getElem_cons_drop hl, spotF_cons, spotF_ge hl]; rfl
      · rw [List.drop_of_length_le (by omega)]; rfl
    rw [h2]
  · left; rfl
theorem set_sub (k : Key) (n : Int) : ∀ (d : Nat) (t : Tr) (a : Nat), t.Good d a → (t.nd a).ps.length ≤ 8 → SortedK (t.cont d a) → ∀ f, 2 * d + 1 ≤ f → SetSaid t d a k n (setO f t a k n) := by
  intro d
  induction d with
  | zero =>
    intro t a h h8 hs f hf
    obtain ⟨f, rfl⟩ : ∃ g, f = g + 1 := ⟨f - 1, by omega⟩
    by_cases hi : hasF (t.nd a).ps k = true
    · exact set_here k n h hs hi f
    · exact set_leaf k n h h8 (by simpa using hi) f
  | succ d ih =>
    intro t a h h8 hs f hf
    obtain ⟨f, rfl⟩ : ∃ g, f = g + 1 + 1 := ⟨f - 2, by omega⟩
    have hsp := spot_kid h k
    have hk := split_at (t.nd a).ks (spotF (t.nd a).ps k) hsp
    have hg : (t.nd a).ks.getD (spotF (t.nd a).ps k) 0 = (t.nd a).ks[spotF (t.nd a).ps k] := by simp [List.getD, hsp]
    have hok := h.ok
    rw [Tr.ok] at hok
    by_cases hi : hasF (t.nd a).ps k = true
    · exact set_here k n h hs hi _
    by_cases h9 : (t.nd ((t.nd a).ks.getD (spotF (t.nd a).ps k) 0)).ps.length = 9
    · have hAl : ((t.nd a).ks.take (spotF (t.nd a).ps k)).length = spotF (t.nd a).ps k := by simp; omega
      have h9' := h9
      rw [hg] at h9'
      obtain ⟨hc, hcont, hm, hnd, hc4, hr4, _⟩ := split_law h hk h9' h8
      rw [hAl] at hc hcont hm hnd hc4 hr4
      have hg1 := good_of_chg h hc
      have hd := set_down k n hg1 (by rw [hcont]; exact hs) f (fun _ => by
        have hks : ((splitT t a (spotF (t.nd a).ps k)).nd a).ks = (t.nd a).ks.take (spotF (t.nd a).ps k) ++ (t.nd a).ks[spotF (t.nd a).ps k] :: (takeT t).1 :: (t.nd a).ks.drop (spotF (t.nd a).ps k + 1) := by rw [hnd]
        have hps : ((splitT t a (spotF (t.nd a).ps k)).nd a).ps = putL (t.nd a).ps (spotF (t.nd a).ps k) ((t.nd (t.nd a).ks[spotF (t.nd a).ps k]).ps.getD 4 ([], 0)) := by rw [hnd]
        rw [hks, hps]
        rcases spotF_put (t.nd a).ps k ((t.nd (t.nd a).ks[spotF (t.nd a).ps k]).ps.getD 4 ([], 0)) with e | e
        · rw [e]
          have := getD_at ((t.nd a).ks.take (spotF (t.nd a).ps k)) (t.nd a).ks[spotF (t.nd a).ps k] ((takeT t).1 :: (t.nd a).ks.drop (spotF (t.nd a).ps k + 1))
          rw [hAl] at this
          rw [this, hc4]; omega
        · rw [e]
          have := getD_at ((t.nd a).ks.take (spotF (t.nd a).ps k) ++ [(t.nd a).ks[spotF (t.nd a).ps k]]) (takeT t).1 ((t.nd a).ks.drop (spotF (t.nd a).ps k + 1))
          rw [List.length_append, hAl, List.append_assoc] at this
          simp only [List.length_cons, List.length_nil, Nat.zero_add, List.cons_append, List.nil_append] at this
          rw [this, hr4]; omega) (fun c h1 h2 h3 => ih _ c h1 h2 h3 f (by omega))
      obtain ⟨t', e1, c1, e2, e3, e4⟩ := hd.out
      rw [hcont] at e1 e2 e3
      refine ⟨t', ?_, hc.trans c1, e2, by rw [e3, hm], ?_⟩
      · rw [setO, if_neg hi, if_neg (by omega), if_pos h9, e1]
      · refine Nat.le_trans ?_ e4
        rw [hnd]
        simp only [putL_length]; omega
    · exact set_down k n h hs _ (fun _ => by
        have := ok_ps (hok.2.2.2 _ (List.getElem_mem hsp)).1
        rw [hg] at h9 ⊢
        omega) (fun c h1 h2 h3 => ih _ c h1 h2 h3 _ (by omega))
end
end Go.Proofs.Yteoibolompiohaa
