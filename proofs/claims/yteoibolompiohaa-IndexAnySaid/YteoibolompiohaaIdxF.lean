/- The plain law of a taking away: a kid filled, the last and the first pair below a node, the way down. No program in sight. Conditions: as each theorem says. -/
import Derived.Test.YteoibolompiohaaIdxD
namespace Go.Proofs.Yteoibolompiohaa

def rotL (t : Tr) (a i : Nat) : Tr :=
  ((t.put ((t.nd a).ks.getD i 0) ⟨(t.nd a).ps.getD (i - 1) pr0 :: (t.nd ((t.nd a).ks.getD i 0)).ps, (t.nd ((t.nd a).ks.getD (i - 1) 0)).ks.drop (t.nd ((t.nd a).ks.getD (i - 1) 0)).ps.length ++ (t.nd ((t.nd a).ks.getD i 0)).ks⟩).put ((t.nd a).ks.getD (i - 1) 0)
    ⟨(t.nd ((t.nd a).ks.getD (i - 1) 0)).ps.take ((t.nd ((t.nd a).ks.getD (i - 1) 0)).ps.length - 1), (t.nd ((t.nd a).ks.getD (i - 1) 0)).ks.take (t.nd ((t.nd a).ks.getD (i - 1) 0)).ps.length⟩).put a
    ⟨(t.nd a).ps.set (i - 1) ((t.nd ((t.nd a).ks.getD (i - 1) 0)).ps.getD ((t.nd ((t.nd a).ks.getD (i - 1) 0)).ps.length - 1) pr0), (t.nd a).ks⟩
def rotR (t : Tr) (a i : Nat) : Tr :=
  ((t.put ((t.nd a).ks.getD i 0) ⟨(t.nd ((t.nd a).ks.getD i 0)).ps ++ [(t.nd a).ps.getD i pr0], (t.nd ((t.nd a).ks.getD i 0)).ks ++ (t.nd ((t.nd a).ks.getD (i + 1) 0)).ks.take 1⟩).put ((t.nd a).ks.getD (i + 1) 0)
    ⟨(t.nd ((t.nd a).ks.getD (i + 1) 0)).ps.drop 1, (t.nd ((t.nd a).ks.getD (i + 1) 0)).ks.drop 1⟩).put a
    ⟨(t.nd a).ps.set i ((t.nd ((t.nd a).ks.getD (i + 1) 0)).ps.getD 0 pr0), (t.nd a).ks⟩
def fillT (t : Tr) (a i : Nat) : Nat × Tr :=
  if 4 < (t.nd ((t.nd a).ks.getD i 0)).ps.length then (i, t)
  else if 0 < i ∧ 4 < (t.nd ((t.nd a).ks.getD (i - 1) 0)).ps.length then (i, rotL t a i)
  else if i + 1 < (t.nd a).ks.length then (if 4 < (t.nd ((t.nd a).ks.getD (i + 1) 0)).ps.length then (i, rotR t a i) else (i, joinT t a i))
  else (i - 1, joinT t a (i - 1))
def endT (t : Tr) : Nat → Nat → Bool → Pr
  | 0, _, _ => pr0
  | f + 1, a, b => if (t.nd a).ks.length = 0 then (if b = true then (t.nd a).ps.getD ((t.nd a).ps.length - 1) pr0 else (t.nd a).ps.getD 0 pr0)
    else endT t f (if b = true then (t.nd a).ks.getD ((t.nd a).ks.length - 1) 0 else (t.nd a).ks.getD 0 0) b
def remO : Nat → Tr → Nat → Key → Option Tr
  | 0, _, _, _ => none
  | f + 1, t, a, k =>
    if (t.nd a).ks.length = 0 then some (t.put a ⟨cutL (t.nd a).ps (spotF (t.nd a).ps k), (t.nd a).ks⟩)
    else if hasF (t.nd a).ps k = false then
      (if hasF (((fillT t a (spotF (t.nd a).ps k)).2).nd a).ps k = true then remO f (fillT t a (spotF (t.nd a).ps k)).2 a k
       else remO f (fillT t a (spotF (t.nd a).ps k)).2 ((((fillT t a (spotF (t.nd a).ps k)).2).nd a).ks.getD (spotF (((fillT t a (spotF (t.nd a).ps k)).2).nd a).ps k) 0) k)
    else if 4 < (t.nd ((t.nd a).ks.getD (spotF (t.nd a).ps k) 0)).ps.length then
      remO f (t.put a ⟨(t.nd a).ps.set (spotF (t.nd a).ps k) (endT t 400 ((t.nd a).ks.getD (spotF (t.nd a).ps k) 0) true), (t.nd a).ks⟩) ((t.nd a).ks.getD (spotF (t.nd a).ps k) 0) (endT t 400 ((t.nd a).ks.getD (spotF (t.nd a).ps k) 0) true).1
    else if 4 < (t.nd ((t.nd a).ks.getD (spotF (t.nd a).ps k + 1) 0)).ps.length then
      remO f (t.put a ⟨(t.nd a).ps.set (spotF (t.nd a).ps k) (endT t 400 ((t.nd a).ks.getD (spotF (t.nd a).ps k + 1) 0) false), (t.nd a).ks⟩) ((t.nd a).ks.getD (spotF (t.nd a).ps k + 1) 0) (endT t 400 ((t.nd a).ks.getD (spotF (t.nd a).ps k + 1) 0) false).1
    else remO f (joinT t a (spotF (t.nd a).ps k)) ((t.nd a).ks.getD (spotF (t.nd a).ps k) 0) k
section
variable {t t' : Tr} {d a b : Nat} {n : Nod}
theorem getD_at2 (A : List Nat) (l c : Nat) (B : List Nat) : (A ++ l :: c :: B).getD (A.length + 1) 0 = c := by
  have := getD_at (A ++ [l]) c B
  rw [List.length_append, List.append_assoc] at this
  exact this
/-- Three nodes put anew. -/
theorem put3 {l c : Nat} {L C Pn : Nod} (hl : l < t.nodes.length) (hc : c < t.nodes.length) (ha : a < t.nodes.length) (h1 : l ≠ a) (h2 : c ≠ a) (h3 : l ≠ c) :
    (((t.put c C).put l L).put a Pn).nodes.length = t.nodes.length ∧ (((t.put c C).put l L).put a Pn).free = t.free ∧ (((t.put c C).put l L).put a Pn).root = t.root ∧ (((t.put c C).put l L).put a Pn).nd a = Pn ∧
    (((t.put c C).put l L).put a Pn).nd l = L ∧ (((t.put c C).put l L).put a Pn).nd c = C ∧ ∀ x, x ≠ a → x ≠ l → x ≠ c → (((t.put c C).put l L).put a Pn).nd x = t.nd x := by
  refine ⟨by rw [put_len, put_len, put_len], rfl, rfl, nd_put_same (by rw [put_len, put_len]; exact ha), ?_, ?_, fun x g1 g2 g3 => ?_⟩
  · rw [nd_put_ne h1]; exact nd_put_same (by rw [put_len]; exact hl)
  · rw [nd_put_ne h2, nd_put_ne (Ne.symm h3)]; exact nd_put_same hc
  · rw [nd_put_ne g1, nd_put_ne g2, nd_put_ne g3]
theorem okN_len {K : Nod} (h : t.okN (d + 1) K) : K.ks.length = K.ps.length + 1 := h.1
theorem two_ne (h : t.Good (d + 1) a) {A B : List Nat} {l c : Nat} (hk : (t.nd a).ks = A ++ l :: c :: B) : l ≠ a ∧ c ≠ a ∧ l ≠ c := by
  obtain ⟨hgl, hgc, hal, hac, haf, hlc, hx⟩ := kids_two h hk
  exact ⟨fun e => hal (e ▸ ids_self t d l), fun e => hac (e ▸ ids_self t d c), fun e => hlc l (ids_self t d l) (by rw [e]; exact ids_self t d c)⟩
/-- What a filling comes to. -/
structure FillSaid (t t' : Tr) (d a c : Nat) : Prop where
  chg : Chg t t' (d + 1) a
  cont : t'.cont (d + 1) a = t.cont (d + 1) a
  many : t'.many = t.many
  len : t'.nodes.length = t.nodes.length
  few : (t.nd a).ps.length ≤ (t'.nd a).ps.length + 1
  kid : ∃ A' c' B', (t'.nd a).ks = A' ++ c' :: B' ∧ 5 ≤ (t'.nd c').ps.length ∧ ∀ p ∈ t.cont d c, p ∈ t'.cont d c'
theorem rotL_law (h : t.Good (d + 1) a) {A B : List Nat} {l c : Nat} (hk : (t.nd a).ks = A ++ l :: c :: B) (h5 : 4 < (t.nd l).ps.length) (h4 : (t.nd c).ps.length = 4) : FillSaid t (rotL t a (A.length + 1)) d a c := by
  obtain ⟨hgl, hgc, hal, hac, haf, hlc, hx⟩ := kids_two h hk
  obtain ⟨n1, n2, n3⟩ := two_ne h hk
  have hokl := (ok_eq t d l).1 hgl.ok
  have hokc := (ok_eq t d c).1 hgc.ok
  have h9 := okN_ps hokl.2
  have hg1 : (t.nd a).ks.getD A.length 0 = l := by rw [hk, getD_at]
  have hg2 : (t.nd a).ks.getD (A.length + 1) 0 = c := by rw [hk, getD_at2]
  obtain ⟨m, hm⟩ : ∃ m, m = (t.nd l).ps.getD ((t.nd l).ps.length - 1) pr0 := ⟨_, rfl⟩
  obtain ⟨pm, hpm⟩ : ∃ m, m = (t.nd a).ps.getD A.length pr0 := ⟨_, rfl⟩
  have hps : (t.nd l).ps = (t.nd l).ps.take ((t.nd l).ps.length - 1) ++ m :: [] := by
    have e : m = (t.nd l).ps[(t.nd l).ps.length - 1] := by rw [hm, List.getD_eq_getElem?_getD, List.getElem?_eq_getElem (by omega)]; rfl
    rw [e, show ([] : List Pr) = (t.nd l).ps.drop ((t.nd l).ps.length - 1 + 1) by rw [List.drop_of_length_le (by omega)], List.getElem_cons_drop, List.take_append_drop]
  have hl : t.nd l = ⟨(t.nd l).ps.take ((t.nd l).ps.length - 1) ++ m :: [], (t.nd l).ks.take (t.nd l).ps.length ++ (t.nd l).ks.drop (t.nd l).ps.length⟩ := by rw [← hps, List.take_append_drop]
  have hd1 : d = 0 ∨ ((t.nd l).ks.take (t.nd l).ps.length).length = ((t.nd l).ps.take ((t.nd l).ps.length - 1)).length + 1 := by
    cases d with
    | zero => exact .inl rfl
    | succ d => have := okN_len hokl.2; exact .inr (by simp; omega)
  have hd2 : d = 0 ∨ ((t.nd l).ks.drop (t.nd l).ps.length).length = ([] : List Pr).length + 1 := by
    cases d with
    | zero => exact .inl rfl
    | succ d => have := okN_len hokl.2; exact .inr (by simp; omega)
  have hrot : rotL t a (A.length + 1) = ((t.put c ⟨pm :: (t.nd c).ps, (t.nd l).ks.drop (t.nd l).ps.length ++ (t.nd c).ks⟩).put l ⟨(t.nd l).ps.take ((t.nd l).ps.length - 1), (t.nd l).ks.take (t.nd l).ps.length⟩).put a ⟨(t.nd a).ps.set A.length m, (t.nd a).ks⟩ := by
    unfold rotL
    rw [Nat.add_sub_cancel, hg1, hg2, ← hm, ← hpm]
  rw [hrot]
  have hp3 := put3 (L := ⟨(t.nd l).ps.take ((t.nd l).ps.length - 1), (t.nd l).ks.take (t.nd l).ps.length⟩) (C := ⟨pm :: (t.nd c).ps, (t.nd l).ks.drop (t.nd l).ps.length ++ (t.nd c).ks⟩) (Pn := ⟨(t.nd a).ps.set A.length m, (t.nd a).ks⟩) hokl.1 hokc.1 (ok_lt h.ok) n1 n2 n3
  have hmany : (((t.put c ⟨pm :: (t.nd c).ps, (t.nd l).ks.drop (t.nd l).ps.length ++ (t.nd c).ks⟩).put l ⟨(t.nd l).ps.take ((t.nd l).ps.length - 1), (t.nd l).ks.take (t.nd l).ps.length⟩).put a ⟨(t.nd a).ps.set A.length m, (t.nd a).ks⟩).many = t.many := rfl
  generalize ((t.put c ⟨pm :: (t.nd c).ps, (t.nd l).ks.drop (t.nd l).ps.length ++ (t.nd c).ks⟩).put l ⟨(t.nd l).ps.take ((t.nd l).ps.length - 1), (t.nd l).ks.take (t.nd l).ps.length⟩).put a ⟨(t.nd a).ps.set A.length m, (t.nd a).ks⟩ = t' at *
  have hcl : t.contN d (t.nd l) = t.contN d ⟨(t.nd l).ps.take ((t.nd l).ps.length - 1), (t.nd l).ks.take (t.nd l).ps.length⟩ ++ m :: t.contN d ⟨[], (t.nd l).ks.drop (t.nd l).ps.length⟩ := by
    conv => lhs; rw [hl]
    exact contN_part _ _ _ _ _ hd1
  have hcc : t.contN d ⟨pm :: (t.nd c).ps, (t.nd l).ks.drop (t.nd l).ps.length ++ (t.nd c).ks⟩ = t.contN d ⟨[], (t.nd l).ks.drop (t.nd l).ps.length⟩ ++ pm :: t.contN d (t.nd c) :=
    contN_part [] pm (t.nd c).ps _ _ hd2
  obtain ⟨q1, q2, q3, q4⟩ := shift_law (t' := t') h hk ⟨(t.nd l).ps.take ((t.nd l).ps.length - 1), (t.nd l).ks.take (t.nd l).ps.length⟩ ⟨pm :: (t.nd c).ps, (t.nd l).ks.drop (t.nd l).ps.length ++ (t.nd c).ks⟩ m
    (by
      cases d with
      | zero => exact ⟨by simp [hokl.2.1], by simp; omega⟩
      | succ d => have := okN_len hokl.2; exact ⟨by simp; omega, by simp; omega, fun k hkm => hokl.2.2.2 k (List.mem_of_mem_take hkm)⟩)
    (by
      cases d with
      | zero => exact ⟨by simp [hokl.2.1, hokc.2.1], by simp; omega⟩
      | succ d => 
        have := okN_len hokl.2
        have := okN_len hokc.2
        exact ⟨by simp; omega, by simp; omega, fun k hkm => by
          rcases List.mem_append.1 hkm with h | h
          · exact hokl.2.2.2 k (List.mem_of_mem_drop h)
          · exact hokc.2.2.2 k h⟩)
    (by simp; omega) (by simp; omega)
    (by
      rw [idsN_part (ps2 := []) (ps3 := (t.nd c).ps)]
      have e1 : t.idsN d (t.nd l) = t.idsN d ⟨(t.nd l).ps.take ((t.nd l).ps.length - 1), (t.nd l).ks.take (t.nd l).ps.length⟩ ++ t.idsN d ⟨[], (t.nd l).ks.drop (t.nd l).ps.length⟩ := by
        conv => lhs; rw [hl]
        exact idsN_part _ _ _ _ _
      rw [e1]
      simp)
    (by rw [hcl, hcc, ← hpm]; simp) hp3
  refine ⟨q1, q2, hmany, hp3.1, ?_, A ++ [l], c, B, ?_, ?_, fun p hp => ?_⟩
  · rw [hp3.2.2.2.1]; simp
  · rw [hp3.2.2.2.1]; simp [hk]
  · rw [hp3.2.2.2.2.2.1]; simp; omega
  · rw [q4, hcc]
    rw [cont_eq] at hp
    simp [hp]
theorem rotR_law (h : t.Good (d + 1) a) {A B : List Nat} {l c : Nat} (hk : (t.nd a).ks = A ++ l :: c :: B) (h4 : (t.nd l).ps.length = 4) (h5 : 4 < (t.nd c).ps.length) : FillSaid t (rotR t a A.length) d a l := by
  obtain ⟨hgl, hgc, hal, hac, haf, hlc, hx⟩ := kids_two h hk
  obtain ⟨n1, n2, n3⟩ := two_ne h hk
  have hokl := (ok_eq t d l).1 hgl.ok
  have hokc := (ok_eq t d c).1 hgc.ok
  have h9 := okN_ps hokc.2
  have hg1 : (t.nd a).ks.getD A.length 0 = l := by rw [hk, getD_at]
  have hg2 : (t.nd a).ks.getD (A.length + 1) 0 = c := by rw [hk, getD_at2]
  obtain ⟨m, hm⟩ : ∃ m, m = (t.nd c).ps.getD 0 pr0 := ⟨_, rfl⟩
  obtain ⟨pm, hpm⟩ : ∃ m, m = (t.nd a).ps.getD A.length pr0 := ⟨_, rfl⟩
  have hps : (t.nd c).ps = [] ++ m :: (t.nd c).ps.drop 1 := by
    have e : m = (t.nd c).ps[0] := by rw [hm, List.getD_eq_getElem?_getD, List.getElem?_eq_getElem (by omega)]; rfl
    rw [e, List.nil_append, List.getElem_cons_drop, List.drop_zero]
  have hc : t.nd c = ⟨[] ++ m :: (t.nd c).ps.drop 1, (t.nd c).ks.take 1 ++ (t.nd c).ks.drop 1⟩ := by rw [← hps, List.take_append_drop]
  have hd1 : d = 0 ∨ ((t.nd c).ks.take 1).length = ([] : List Pr).length + 1 := by
    cases d with
    | zero => exact .inl rfl
    | succ d => have := okN_len hokc.2; exact .inr (by simp; omega)
  have hd2 : d = 0 ∨ (t.nd l).ks.length = (t.nd l).ps.length + 1 := by
    cases d with
    | zero => exact .inl rfl
    | succ d => exact .inr (okN_len hokl.2)
  have hrot : rotR t a A.length = ((t.put l ⟨(t.nd l).ps ++ [pm], (t.nd l).ks ++ (t.nd c).ks.take 1⟩).put c ⟨(t.nd c).ps.drop 1, (t.nd c).ks.drop 1⟩).put a ⟨(t.nd a).ps.set A.length m, (t.nd a).ks⟩ := by
    unfold rotR
    rw [hg1, hg2, ← hm, ← hpm]
  rw [hrot]
  have hp3 := put3 (L := ⟨(t.nd c).ps.drop 1, (t.nd c).ks.drop 1⟩) (C := ⟨(t.nd l).ps ++ [pm], (t.nd l).ks ++ (t.nd c).ks.take 1⟩) (Pn := ⟨(t.nd a).ps.set A.length m, (t.nd a).ks⟩) hokc.1 hokl.1 (ok_lt h.ok) n2 n1 (Ne.symm n3)
  have hmany : (((t.put l ⟨(t.nd l).ps ++ [pm], (t.nd l).ks ++ (t.nd c).ks.take 1⟩).put c ⟨(t.nd c).ps.drop 1, (t.nd c).ks.drop 1⟩).put a ⟨(t.nd a).ps.set A.length m, (t.nd a).ks⟩).many = t.many := rfl
  generalize ((t.put l ⟨(t.nd l).ps ++ [pm], (t.nd l).ks ++ (t.nd c).ks.take 1⟩).put c ⟨(t.nd c).ps.drop 1, (t.nd c).ks.drop 1⟩).put a ⟨(t.nd a).ps.set A.length m, (t.nd a).ks⟩ = t' at *
  have hcl : t.contN d ⟨(t.nd l).ps ++ [pm], (t.nd l).ks ++ (t.nd c).ks.take 1⟩ = t.contN d (t.nd l) ++ pm :: t.contN d ⟨[], (t.nd c).ks.take 1⟩ := contN_part (t.nd l).ps pm [] _ _ hd2
  have hcc : t.contN d (t.nd c) = t.contN d ⟨[], (t.nd c).ks.take 1⟩ ++ m :: t.contN d ⟨(t.nd c).ps.drop 1, (t.nd c).ks.drop 1⟩ := by
    conv => lhs; rw [hc]
    exact contN_part _ _ _ _ _ hd1
  obtain ⟨q1, q2, q3, q4⟩ := shift_law (t' := t') h hk ⟨(t.nd l).ps ++ [pm], (t.nd l).ks ++ (t.nd c).ks.take 1⟩ ⟨(t.nd c).ps.drop 1, (t.nd c).ks.drop 1⟩ m
    (by
      cases d with
      | zero => exact ⟨by simp [hokl.2.1, hokc.2.1], by simp; omega⟩
      | succ d =>
        have := okN_len hokl.2
        have := okN_len hokc.2
        exact ⟨by simp; omega, by simp; omega, fun k hkm => by
          rcases List.mem_append.1 hkm with h | h
          · exact hokl.2.2.2 k h
          · exact hokc.2.2.2 k (List.mem_of_mem_take h)⟩)
    (by
      cases d with
      | zero => exact ⟨by simp [hokc.2.1], by simp; omega⟩
      | succ d => have := okN_len hokc.2; exact ⟨by simp; omega, by simp; omega, fun k hkm => hokc.2.2.2 k (List.mem_of_mem_drop hkm)⟩)
    (by simp; omega) (by simp; omega)
    (by
      rw [idsN_part (ps2 := (t.nd l).ps) (ps3 := [])]
      have e1 : t.idsN d (t.nd c) = t.idsN d ⟨[], (t.nd c).ks.take 1⟩ ++ t.idsN d ⟨(t.nd c).ps.drop 1, (t.nd c).ks.drop 1⟩ := by
        conv => lhs; rw [hc]
        exact idsN_part _ _ _ _ _
      rw [e1]
      simp)
    (by rw [hcl, hcc, ← hpm]; simp) ⟨hp3.1, hp3.2.1, hp3.2.2.1, hp3.2.2.2.1, hp3.2.2.2.2.2.1, hp3.2.2.2.2.1, fun x g1 g2 g3 => hp3.2.2.2.2.2.2 x g1 g3 g2⟩
  refine ⟨q1, q2, hmany, hp3.1, ?_, A, l, c :: B, ?_, ?_, fun p hp => ?_⟩
  · rw [hp3.2.2.2.1]; simp
  · rw [hp3.2.2.2.1]; simp [hk]
  · rw [hp3.2.2.2.2.2.1]; simp; omega
  · rw [q3, hcl]
    rw [cont_eq] at hp
    simp [hp]
theorem fill_join (h : t.Good (d + 1) a) {A B : List Nat} {l c : Nat} (hk : (t.nd a).ks = A ++ l :: c :: B) (h4 : (t.nd l).ps.length = 4) (h5 : (t.nd c).ps.length = 4) (x : Nat) (hx : x = l ∨ x = c) : FillSaid t (joinT t a A.length) d a x := by
  obtain ⟨q1, q2, q3, q4, q5, q6, q7⟩ := join_law h hk (by omega)
  have hpos := okN_pos h.ok hk
  refine ⟨q1, q2, q3, q4, ?_, A, l, B, by rw [q5], ?_, fun p hp => ?_⟩
  · rw [q5]; simp only [cutL_length _ _ hpos]; omega
  · rw [q6]; simp; omega
  · rw [q7]
    rcases hx with rfl | rfl <;> simp [hp]
theorem fill_law (h : t.Good (d + 1) a) (h1 : 1 ≤ (t.nd a).ps.length) (i : Nat) (hi : i < (t.nd a).ks.length) : FillSaid t (fillT t a i).2 d a (t.nd a).ks[i] := by
  have hok := h.ok
  rw [Tr.ok] at hok
  have hkid : ∀ j (hj : j < (t.nd a).ks.length), 4 ≤ (t.nd (t.nd a).ks[j]).ps.length := fun j hj => (hok.2.2.2 _ (List.getElem_mem hj)).2
  have hg : ∀ j (hj : j < (t.nd a).ks.length), (t.nd a).ks.getD j 0 = (t.nd a).ks[j] := fun j hj => by simp [List.getD, hj]
  unfold fillT
  rw [hg i hi]
  by_cases c1 : 4 < (t.nd (t.nd a).ks[i]).ps.length
  · rw [if_pos c1]
    exact ⟨Chg.refl h, rfl, rfl, rfl, by simp, _, _, _, split_at _ i hi, c1, fun p hp => hp⟩
  rw [if_neg c1]
  have k4 : (t.nd (t.nd a).ks[i]).ps.length = 4 := by have := hkid i hi; omega
  by_cases c2 : 0 < i ∧ 4 < (t.nd ((t.nd a).ks.getD (i - 1) 0)).ps.length
  · rw [if_pos c2]
    obtain ⟨c2, c3⟩ := c2
    obtain ⟨j, rfl⟩ : ∃ j, i = j + 1 := ⟨i - 1, by omega⟩
    rw [Nat.add_sub_cancel, hg j (by omega)] at c3
    have hk : (t.nd a).ks = (t.nd a).ks.take j ++ (t.nd a).ks[j] :: (t.nd a).ks[j + 1] :: (t.nd a).ks.drop (j + 1 + 1) := by rw [List.getElem_cons_drop, List.getElem_cons_drop, List.take_append_drop]
    have hl : ((t.nd a).ks.take j).length = j := by simp; omega
    have := rotL_law h hk c3 k4
    rw [hl] at this
    exact this
  rw [if_neg c2]
  by_cases c3 : i + 1 < (t.nd a).ks.length
  · rw [if_pos c3, hg _ c3]
    have hk : (t.nd a).ks = (t.nd a).ks.take i ++ (t.nd a).ks[i] :: (t.nd a).ks[i + 1] :: (t.nd a).ks.drop (i + 1 + 1) := by rw [List.getElem_cons_drop, List.getElem_cons_drop, List.take_append_drop]
    have hl : ((t.nd a).ks.take i).length = i := by simp; omega
    by_cases c4 : 4 < (t.nd (t.nd a).ks[i + 1]).ps.length
    · rw [if_pos c4]
      have := rotR_law h hk k4 c4
      rw [hl] at this
      exact this
    · rw [if_neg c4]
      have := fill_join h hk k4 (by have := hkid _ c3; omega) _ (.inl rfl)
      rw [hl] at this
      exact this
  · rw [if_neg c3]
    obtain ⟨j, rfl⟩ : ∃ j, i = j + 1 := ⟨i - 1, by omega⟩
    rw [Nat.add_sub_cancel, hg j (by omega)] at c2
    have hk : (t.nd a).ks = (t.nd a).ks.take j ++ (t.nd a).ks[j] :: (t.nd a).ks[j + 1] :: (t.nd a).ks.drop (j + 1 + 1) := by rw [List.getElem_cons_drop, List.getElem_cons_drop, List.take_append_drop]
    have hl : ((t.nd a).ks.take j).length = j := by simp; omega
    have := fill_join h hk (by have := hkid j (by omega); omega) k4 _ (.inr rfl)
    rw [hl] at this
    exact this
/-- The last pair below a node, and the first one. -/
theorem end_law : ∀ (d : Nat) (a : Nat), t.ok d a → 4 ≤ (t.nd a).ps.length → ∀ f, d + 1 ≤ f → (∃ X, t.cont d a = X ++ [endT t f a true]) ∧ ∃ X, t.cont d a = endT t f a false :: X := by
  intro d
  induction d with
  | zero =>
    intro a h h4 f hf
    obtain ⟨f, rfl⟩ : ∃ g, f = g + 1 := ⟨f - 1, by omega⟩
    rw [Tr.ok] at h
    have hk : (t.nd a).ks.length = 0 := by rw [h.2.1]; rfl
    rw [endT, endT, if_pos hk, if_pos hk, if_pos rfl, if_neg (by simp), Tr.cont]
    obtain ⟨l, hl⟩ : ∃ l, l = (t.nd a).ps := ⟨_, rfl⟩
    rw [← hl] at h4 ⊢
    constructor
    · refine ⟨l.take (l.length - 1), ?_⟩
      have e : l.getD (l.length - 1) pr0 = l[l.length - 1] := by rw [List.getD_eq_getElem?_getD, List.getElem?_eq_getElem (by omega)]; rfl
      rw [e, show ([l[l.length - 1]] : List Pr) = l.drop (l.length - 1) by rw [← List.getElem_cons_drop (by omega), List.drop_of_length_le (by omega)], List.take_append_drop]
    · match l, h4 with
      | x :: l, _ => exact ⟨l, rfl⟩
  | succ d ih =>
    intro a h h4 f hf
    obtain ⟨f, rfl⟩ : ∃ g, f = g + 1 := ⟨f - 1, by omega⟩
    rw [Tr.ok] at h
    have hk : ¬ (t.nd a).ks.length = 0 := by omega
    rw [endT, endT, if_neg hk, if_neg hk, if_pos rfl, if_neg (by simp), Tr.cont]
    have hg : ∀ j (hj : j < (t.nd a).ks.length), (t.nd a).ks.getD j 0 = (t.nd a).ks[j] := fun j hj => by simp [List.getD, hj]
    rw [hg _ (by omega), hg _ (by omega)]
    have hl : ((t.nd a).ks.map fun k => t.cont d k).length = (t.nd a).ps.length + 1 := by simp [h.2.1]
    have hlast := (ih (t.nd a).ks[(t.nd a).ks.length - 1] (h.2.2.2 _ (List.getElem_mem _)).1 (h.2.2.2 _ (List.getElem_mem _)).2 f (by omega)).1
    have hfirst := (ih (t.nd a).ks[0] (h.2.2.2 _ (List.getElem_mem _)).1 (h.2.2.2 _ (List.getElem_mem _)).2 f (by omega)).2
    constructor
    · obtain ⟨X, hX⟩ := hlast
      rw [weave_split _ _ ((t.nd a).ks.length - 1) hl (by simp; omega)]
      have hp : ∀ (Ls : List (List Pr)) (ps : List Pr) (j : Nat), Ls.length = ps.length + 1 → j = ps.length → wpost Ls ps j = [] := by
        intro Ls
        induction Ls with
        | nil => intro ps j h1; simp at h1
        | cons L Ls ihL =>
          intro ps j h1 h2
          subst h2
          cases ps with
          | nil => rfl
          | cons p ps => exact ihL ps _ (by simpa using h1) rfl
      rw [hp _ _ _ hl (by omega), List.append_nil, List.getElem_map, hX]
      exact ⟨_, (List.append_assoc _ _ _).symm⟩
    · obtain ⟨X, hX⟩ := hfirst
      rw [weave_split _ _ 0 hl (by simp; omega)]
      have hp : ∀ (Ls : List (List Pr)) (ps : List Pr), wpre Ls ps 0 = [] := by
        intro Ls ps
        cases Ls <;> cases ps <;> rfl
      rw [hp, List.nil_append, List.getElem_map, hX]
      exact ⟨_, rfl⟩
end
end Go.Proofs.Yteoibolompiohaa
