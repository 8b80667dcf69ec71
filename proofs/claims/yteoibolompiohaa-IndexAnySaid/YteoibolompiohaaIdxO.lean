/- The plain law of one step of a taking away; the contract of fill at any kid. Conditions: as each theorem says. -/
import Derived.Test.YteoibolompiohaaIdxL
namespace Go.Proofs.Yteoibolompiohaa
open Go.RowKit

section
variable {t t' : Tr} {d a b : Nat} {n : Nod} {k : Key}
/-- What a taking away below a node asks. -/
structure Rem (t : Tr) (d a : Nat) (k : Key) : Prop where
  good : t.Good d a
  sorted : SortedK (t.cont d a)
  has : hasF (t.cont d a) k = true
  top : d ≠ 0 → 1 ≤ (t.nd a).ps.length
  deep : d ≤ 390
theorem nodup_short : ∀ (n : Nat) (l : List Nat), l.Nodup → (∀ x ∈ l, x < n) → l.length ≤ n := by
  intro n
  induction n with
  | zero =>
    intro l _ h
    cases l with
    | nil => simp
    | cons x l => exact absurd (h x (by simp)) (by omega)
  | succ n ih =>
    intro l hn h
    have h1 := ih (l.erase n) (hn.erase n) (fun x hx => by
      have h2 := (hn.mem_erase_iff).1 hx
      have := h x h2.2
      omega)
    have := List.length_erase (a := n) (l := l)
    split at this <;> omega
theorem good_free (h : t.Good d a) : t.free.length ≤ t.nodes.length := by
  have hn := h.nodup
  rw [List.nodup_append] at hn
  exact nodup_short _ _ hn.2.1 fun f hf => (h.frees f hf).1
theorem rem_fill (h : Rem t (d + 1) a k) (hn : hasF (t.nd a).ps k = false) :
    hasF (((fillT t a (spotF (t.nd a).ps k)).2).nd a).ps k = false ∧ spotF (((fillT t a (spotF (t.nd a).ps k)).2).nd a).ps k < (((fillT t a (spotF (t.nd a).ps k)).2).nd a).ks.length ∧
      Rem (fillT t a (spotF (t.nd a).ps k)).2 d ((((fillT t a (spotF (t.nd a).ps k)).2).nd a).ks.getD (spotF (((fillT t a (spotF (t.nd a).ps k)).2).nd a).ps k) 0) k ∧
      (fillT t a (spotF (t.nd a).ps k)).2.nodes.length = t.nodes.length ∧ (fillT t a (spotF (t.nd a).ps k)).2.Good (d + 1) a := by
  obtain ⟨h, hs, hi, h1, hd⟩ := h
  have hok := h.ok
  rw [Tr.ok] at hok
  have hl : ((t.nd a).ks.map fun k => t.cont d k).length = (t.nd a).ps.length + 1 := by simp [hok.2.1]
  have hsp := spot_kid h k
  have h1' := h1 (by omega)
  have hw := weave_where _ _ k hl hs hn
  have hin : ∃ p ∈ t.cont d (t.nd a).ks[spotF (t.nd a).ps k], p.1 = k := by
    have hk := split_at (t.nd a).ks (spotF (t.nd a).ps k) hsp
    have hAl : ((t.nd a).ks.take (spotF (t.nd a).ps k)).length = spotF (t.nd a).ps k := by simp; omega
    have hwas := cont_was h hk
    rw [hAl] at hwas
    rw [hwas] at hs hi
    rw [hasF_mid _ _ _ _ hw.1 hw.2] at hi
    rw [SortedK.append, SortedK.append] at hs
    exact (hasF_iff hs.1.2.1 k).1 hi
  obtain ⟨hF, hFc, hFm, hFl, hFf, A', c', B', hk', h5, hsubs⟩ := fill_law h h1' _ hsp
  generalize (fillT t a (spotF (t.nd a).ps k)).2 = t1 at *
  have hg1 := good_of_chg h hF
  have hok1 := hg1.ok
  rw [Tr.ok] at hok1
  have hl1 : ((t1.nd a).ks.map fun k => t1.cont d k).length = (t1.nd a).ps.length + 1 := by simp [hok1.2.1]
  have hAl1 : A'.length < (t1.nd a).ks.length := by rw [hk']; simp
  have hs1 : SortedK (t1.cont (d + 1) a) := by rw [hFc]; exact hs
  have hmap : ((t1.nd a).ks.map fun k => t1.cont d k)[A'.length]'(by simpa using hAl1) = t1.cont d c' := by simp [hk']
  obtain ⟨hsp1, hn1⟩ := weave_in _ _ k A'.length (by simpa using hAl1) hl1 hs1 (by
    obtain ⟨p, hp, e⟩ := hin
    exact ⟨p, by rw [hmap]; exact hsubs p hp, e⟩)
  have hgd : (t1.nd a).ks.getD A'.length 0 = c' := by rw [hk', getD_at]
  obtain ⟨hgc, _⟩ := kids_apart hg1 hk'
  have hwas1 := cont_was hg1 hk'
  have hs2 := hs1
  rw [hwas1, SortedK.append, SortedK.append] at hs2
  have hi1 : hasF (t1.cont d c') k = true := by
    rw [hasF_iff hs2.1.2.1]
    obtain ⟨p, hp, e⟩ := hin
    exact ⟨p, hsubs p hp, e⟩
  rw [hsp1, hgd]
  exact ⟨hn1, hAl1, ⟨hgc, hs2.1.2.1, hi1, fun _ => by omega, by omega⟩, hFl, hg1⟩
/-- A node's two kids beside a key that it has. -/
theorem rem_kids (h : Rem t (d + 1) a k) (hn : hasF (t.nd a).ps k = true) : ∃ l c, (t.nd a).ks.getD (spotF (t.nd a).ps k) 0 = l ∧ (t.nd a).ks.getD (spotF (t.nd a).ps k + 1) 0 = c ∧
    (t.nd a).ks = (t.nd a).ks.take (spotF (t.nd a).ps k) ++ l :: c :: (t.nd a).ks.drop (spotF (t.nd a).ps k + 1 + 1) ∧ spotF (t.nd a).ps k < (t.nd a).ps.length ∧ ((t.nd a).ks.take (spotF (t.nd a).ps k)).length = spotF (t.nd a).ps k ∧
    ((t.nd a).ps.getD (spotF (t.nd a).ps k) pr0).1 = k := by
  obtain ⟨hpl, hpe⟩ := hasF_lt hn
  have hok := h.good.ok
  rw [Tr.ok] at hok
  have hsp : spotF (t.nd a).ps k < (t.nd a).ks.length := by omega
  have hi1 : spotF (t.nd a).ps k + 1 < (t.nd a).ks.length := by omega
  have hk : (t.nd a).ks = (t.nd a).ks.take (spotF (t.nd a).ps k) ++ (t.nd a).ks[spotF (t.nd a).ps k] :: (t.nd a).ks[spotF (t.nd a).ps k + 1] :: (t.nd a).ks.drop (spotF (t.nd a).ps k + 1 + 1) := by
    rw [List.getElem_cons_drop, List.getElem_cons_drop, List.take_append_drop]
  refine ⟨_, _, by simp [List.getD, hsp], by simp [List.getD, hi1], hk, hpl, by simp; omega, ?_⟩
  simp [List.getD, hpl, hpe]
theorem rem_left (h : Rem t (d + 1) a k) (i : Nat) (hpl : i < (t.nd a).ps.length) (hpe : ((t.nd a).ps.getD i pr0).1 = k) (l c : Nat)
    (hk : (t.nd a).ks = (t.nd a).ks.take i ++ l :: c :: (t.nd a).ks.drop (i + 1 + 1)) (c1 : 4 < (t.nd l).ps.length) :
    Rem (t.put a ⟨(t.nd a).ps.set i (endT t 400 l true), (t.nd a).ks⟩) d l (endT t 400 l true).1 := by
  obtain ⟨h, hs, hi, h1, hd⟩ := h
  have hpe : ((t.nd a).ps[i]).1 = k := by rw [← hpe]; simp [List.getD, hpl]
  have hok := h.ok
  rw [Tr.ok] at hok
  have hlm : l ∈ (t.nd a).ks := by rw [hk]; simp
  have hcm : c ∈ (t.nd a).ks := by rw [hk]; simp
  have hAl : ((t.nd a).ks.take i).length = i := by simp; omega
  have hli : ∀ (q : i < (t.nd a).ks.length), ((t.nd a).ks.map fun k => t.cont d k)[i]'(by simpa using q) = t.cont d l := fun q => by
    rw [List.getElem_map]
    congr 1
    have e : (t.nd a).ks[i]? = some l := by rw [hk, List.getElem?_append_right (by omega), hAl, Nat.sub_self]; rfl
    rw [List.getElem?_eq_getElem q] at e
    exact Option.some.inj e
  have hci : ∀ (q : i + 1 < (t.nd a).ks.length), ((t.nd a).ks.map fun k => t.cont d k)[i + 1]'(by simpa using q) = t.cont d c := fun q => by
    rw [List.getElem_map]
    congr 1
    have e : (t.nd a).ks[i + 1]? = some c := by rw [hk, List.getElem?_append_right (by omega), hAl, show i + 1 - i = 1 by omega]; rfl
    rw [List.getElem?_eq_getElem q] at e
    exact Option.some.inj e
  obtain ⟨X, Y, hXY, hX, hY⟩ := cont_pair h hk
  rw [hAl] at hXY hX hY
  have hpi : (t.nd a).ps.getD i pr0 = (k, ((t.nd a).ps[i]).2) := by rw [List.getD_eq_getElem?_getD, List.getElem?_eq_getElem hpl]; exact Prod.ext hpe rfl
  rw [hpi] at hXY
  have h44l : 4 ≤ (t.nd l).ps.length := (hok.2.2.2 l hlm).2
  have h44c : 4 ≤ (t.nd c).ps.length := (hok.2.2.2 c hcm).2
  obtain ⟨Z, hZ⟩ := (end_law d l (hok.2.2.2 l hlm).1 h44l 400 (by omega)).1
  generalize endT t 400 l true = x at *
  have hokN := ((ok_eq t (d + 1) a).1 h.ok).2
  obtain ⟨pc, pcont, pnd⟩ := put_law (n := ⟨(t.nd a).ps.set i x, (t.nd a).ks⟩) h (set_okN hokN _ _) (idsN_ps _ _ _)
  have hg1 := good_of_chg h pc
  have hplen : (t.put a ⟨(t.nd a).ps.set i x, (t.nd a).ks⟩).nodes.length = t.nodes.length := put_len
  have hpmany : (t.put a ⟨(t.nd a).ps.set i x, (t.nd a).ks⟩).many = t.many := rfl
  have hsame : ∀ y ∈ (t.nd a).ks, (t.put a ⟨(t.nd a).ps.set i x, (t.nd a).ks⟩).cont d y = t.cont d y ∧ (t.put a ⟨(t.nd a).ps.set i x, (t.nd a).ks⟩).nd y = t.nd y := fun y hy => by
    have hya : ∀ z ∈ t.ids d y, z ≠ a := fun z hz => (idsN_kids h z (by show z ∈ (t.nd a).ks.flatMap _; exact List.mem_flatMap.2 ⟨y, hy, hz⟩)).1
    exact ⟨(sub_same (by rw [put_len]; exact Nat.le_refl _) d y (fun z hz => nd_put_ne (hya z hz))).1, nd_put_ne (hya y (ids_self t d y))⟩
  generalize t.put a ⟨(t.nd a).ps.set i x, (t.nd a).ks⟩ = t1 at *
  have hk1 : (t1.nd a).ks = (t.nd a).ks.take i ++ l :: (c :: (t.nd a).ks.drop (i + 1 + 1)) := by rw [pnd]; exact hk
  obtain ⟨hgl, _⟩ := kids_apart hg1 hk1
  have hcl := (hsame l hlm).1
  have hndl := (hsame l hlm).2
  have hsl : SortedK (t.cont d l) := by rw [hXY, SortedK.append, SortedK.append] at hs; exact hs.1.2.1
  have hZx : ∀ p ∈ Z, kLt p.1 x.1 = true := by rw [hZ, SortedK.append] at hsl; exact fun p hp => hsl.2.2 p hp x (by simp)
  exact ⟨hgl, by rw [hcl]; exact hsl, by rw [hcl, hZ]; exact hasF_at Z [] x.1 x.2 hZx, fun _ => by rw [hndl]; omega, by omega⟩
theorem rem_right (h : Rem t (d + 1) a k) (i : Nat) (hpl : i < (t.nd a).ps.length) (hpe : ((t.nd a).ps.getD i pr0).1 = k) (l c : Nat)
    (hk : (t.nd a).ks = (t.nd a).ks.take i ++ l :: c :: (t.nd a).ks.drop (i + 1 + 1)) (c2 : 4 < (t.nd c).ps.length) :
    Rem (t.put a ⟨(t.nd a).ps.set i (endT t 400 c false), (t.nd a).ks⟩) d c (endT t 400 c false).1 := by
  obtain ⟨h, hs, hi, h1, hd⟩ := h
  have hpe : ((t.nd a).ps[i]).1 = k := by rw [← hpe]; simp [List.getD, hpl]
  have hok := h.ok
  rw [Tr.ok] at hok
  have hlm : l ∈ (t.nd a).ks := by rw [hk]; simp
  have hcm : c ∈ (t.nd a).ks := by rw [hk]; simp
  have hAl : ((t.nd a).ks.take i).length = i := by simp; omega
  have hli : ∀ (q : i < (t.nd a).ks.length), ((t.nd a).ks.map fun k => t.cont d k)[i]'(by simpa using q) = t.cont d l := fun q => by
    rw [List.getElem_map]
    congr 1
    have e : (t.nd a).ks[i]? = some l := by rw [hk, List.getElem?_append_right (by omega), hAl, Nat.sub_self]; rfl
    rw [List.getElem?_eq_getElem q] at e
    exact Option.some.inj e
  have hci : ∀ (q : i + 1 < (t.nd a).ks.length), ((t.nd a).ks.map fun k => t.cont d k)[i + 1]'(by simpa using q) = t.cont d c := fun q => by
    rw [List.getElem_map]
    congr 1
    have e : (t.nd a).ks[i + 1]? = some c := by rw [hk, List.getElem?_append_right (by omega), hAl, show i + 1 - i = 1 by omega]; rfl
    rw [List.getElem?_eq_getElem q] at e
    exact Option.some.inj e
  obtain ⟨X, Y, hXY, hX, hY⟩ := cont_pair h hk
  rw [hAl] at hXY hX hY
  have hpi : (t.nd a).ps.getD i pr0 = (k, ((t.nd a).ps[i]).2) := by rw [List.getD_eq_getElem?_getD, List.getElem?_eq_getElem hpl]; exact Prod.ext hpe rfl
  rw [hpi] at hXY
  have h44l : 4 ≤ (t.nd l).ps.length := (hok.2.2.2 l hlm).2
  have h44c : 4 ≤ (t.nd c).ps.length := (hok.2.2.2 c hcm).2
  obtain ⟨Z, hZ⟩ := (end_law d c (hok.2.2.2 c hcm).1 h44c 400 (by omega)).2
  generalize endT t 400 c false = x at *
  have hokN := ((ok_eq t (d + 1) a).1 h.ok).2
  obtain ⟨pc, pcont, pnd⟩ := put_law (n := ⟨(t.nd a).ps.set i x, (t.nd a).ks⟩) h (set_okN hokN _ _) (idsN_ps _ _ _)
  have hg1 := good_of_chg h pc
  have hplen : (t.put a ⟨(t.nd a).ps.set i x, (t.nd a).ks⟩).nodes.length = t.nodes.length := put_len
  have hpmany : (t.put a ⟨(t.nd a).ps.set i x, (t.nd a).ks⟩).many = t.many := rfl
  have hsame : ∀ y ∈ (t.nd a).ks, (t.put a ⟨(t.nd a).ps.set i x, (t.nd a).ks⟩).cont d y = t.cont d y ∧ (t.put a ⟨(t.nd a).ps.set i x, (t.nd a).ks⟩).nd y = t.nd y := fun y hy => by
    have hya : ∀ z ∈ t.ids d y, z ≠ a := fun z hz => (idsN_kids h z (by show z ∈ (t.nd a).ks.flatMap _; exact List.mem_flatMap.2 ⟨y, hy, hz⟩)).1
    exact ⟨(sub_same (by rw [put_len]; exact Nat.le_refl _) d y (fun z hz => nd_put_ne (hya z hz))).1, nd_put_ne (hya y (ids_self t d y))⟩
  generalize t.put a ⟨(t.nd a).ps.set i x, (t.nd a).ks⟩ = t1 at *
  have hk1 : (t1.nd a).ks = ((t.nd a).ks.take i ++ [l]) ++ c :: (t.nd a).ks.drop (i + 1 + 1) := by rw [pnd]; simpa using hk
  have hAl1 : ((t.nd a).ks.take i ++ [l]).length = i + 1 := by simp [hAl]
  obtain ⟨hgl, _⟩ := kids_apart hg1 hk1
  have hlm := hcm
  have hcl := (hsame c hlm).1
  have hndl := (hsame c hlm).2
  have hsl : SortedK (t.cont d c) := by rw [hXY, SortedK.append, SortedK.cons] at hs; exact (SortedK.append.1 hs.2.1.2).1
  exact ⟨hgl, by rw [hcl]; exact hsl, by rw [hcl, hZ]; exact hasF_at [] Z x.1 x.2 (by simp), fun _ => by rw [hndl]; omega, by omega⟩
theorem rem_join (h : Rem t (d + 1) a k) (i : Nat) (hpl : i < (t.nd a).ps.length) (hpe : ((t.nd a).ps.getD i pr0).1 = k) (l c : Nat)
    (hk : (t.nd a).ks = (t.nd a).ks.take i ++ l :: c :: (t.nd a).ks.drop (i + 1 + 1)) (c1 : ¬ 4 < (t.nd l).ps.length) (c2 : ¬ 4 < (t.nd c).ps.length) :
    Rem (joinT t a i) d l k ∧ (joinT t a i).nodes.length = t.nodes.length := by
  obtain ⟨h, hs, hi, h1, hd⟩ := h
  have hpe : ((t.nd a).ps[i]).1 = k := by rw [← hpe]; simp [List.getD, hpl]
  have hok := h.ok
  rw [Tr.ok] at hok
  have hlm : l ∈ (t.nd a).ks := by rw [hk]; simp
  have hcm : c ∈ (t.nd a).ks := by rw [hk]; simp
  have hAl : ((t.nd a).ks.take i).length = i := by simp; omega
  have hli : ∀ (q : i < (t.nd a).ks.length), ((t.nd a).ks.map fun k => t.cont d k)[i]'(by simpa using q) = t.cont d l := fun q => by
    rw [List.getElem_map]
    congr 1
    have e : (t.nd a).ks[i]? = some l := by rw [hk, List.getElem?_append_right (by omega), hAl, Nat.sub_self]; rfl
    rw [List.getElem?_eq_getElem q] at e
    exact Option.some.inj e
  have hci : ∀ (q : i + 1 < (t.nd a).ks.length), ((t.nd a).ks.map fun k => t.cont d k)[i + 1]'(by simpa using q) = t.cont d c := fun q => by
    rw [List.getElem_map]
    congr 1
    have e : (t.nd a).ks[i + 1]? = some c := by rw [hk, List.getElem?_append_right (by omega), hAl, show i + 1 - i = 1 by omega]; rfl
    rw [List.getElem?_eq_getElem q] at e
    exact Option.some.inj e
  obtain ⟨X, Y, hXY, hX, hY⟩ := cont_pair h hk
  rw [hAl] at hXY hX hY
  have hpi : (t.nd a).ps.getD i pr0 = (k, ((t.nd a).ps[i]).2) := by rw [List.getD_eq_getElem?_getD, List.getElem?_eq_getElem hpl]; exact Prod.ext hpe rfl
  rw [hpi] at hXY
  have hXk : ∀ p ∈ X ++ t.cont d l, kLt p.1 k = true := by
    have hs3 := hs
    rw [hXY, SortedK.append] at hs3
    exact fun p hp => hs3.2.2 p hp (k, ((t.nd a).ps[i]).2) (by simp)
  have h44l : 4 ≤ (t.nd l).ps.length := (hok.2.2.2 l hlm).2
  have h44c : 4 ≤ (t.nd c).ps.length := (hok.2.2.2 c hcm).2
  obtain ⟨q1, q2, q3, q4, q5, q6, q7⟩ := join_law h hk (by omega)
  rw [hAl] at q1 q2 q3 q4 q5 q6 q7
  generalize joinT t a i = t1 at *
  have hg1 := good_of_chg h q1
  have hk1 : (t1.nd a).ks = (t.nd a).ks.take i ++ l :: (t.nd a).ks.drop (i + 1 + 1) := by rw [q5]
  obtain ⟨hgl, _⟩ := kids_apart hg1 hk1
  rw [hpi] at q7
  have hwas1 := cont_was hg1 hk1
  have hs1 := hs
  rw [← q2, hwas1, SortedK.append, SortedK.append] at hs1
  have hkl : ∀ p ∈ t.cont d l, kLt p.1 k = true := fun p hp => hXk p (by simp [hp])
  have h6 : 9 ≤ (t1.nd l).ps.length := by rw [q6]; simp; omega
  exact ⟨⟨hgl, hs1.1.2.1, by rw [q7]; exact hasF_at _ _ _ _ hkl, fun _ => by omega, by omega⟩, q4⟩
theorem fill_any {m : Mem} {w : World} (h : TreeAt m t w) (hg : t.Good (d + 1) a) (h1 : 1 ≤ (t.nd a).ps.length) (i : Nat) (hi : i < (t.nd a).ks.length) (hn : t.nodes.length ≤ 100000) (hf : t.free.length ≤ 100000) :
    Calls Try.prog 45 #[ptrV m.g, .int .i64 (a : Int), .int .i64 (i : Int)] w (FillGot m (fillT t a i).2 (fillT t a i).1 w) := by
  have hok := hg.ok
  rw [Tr.ok] at hok
  have hk := split_at (t.nd a).ks i hi
  have hAl : ((t.nd a).ks.take i).length = i := by simp; omega
  generalize hl : (t.nd a).ks[i] = c at hk
  have hg1 : (t.nd a).ks.getD i 0 = c := by rw [← hl]; simp [List.getD, hi]
  have h4 := (hok.2.2.2 c (by rw [hk]; simp)).2
  by_cases h5 : 4 < (t.nd c).ps.length
  · have hE : fillT t a i = (i, t) := by unfold fillT; rw [hg1, if_pos h5]
    have := fill_rich h hg hk h5 hn
    rw [hAl] at this
    rw [hE]; exact this
  · by_cases hb : ∃ A' b, (t.nd a).ks.take i = A' ++ [b] ∧ 4 < (t.nd b).ps.length
    · obtain ⟨A', b, hA, h5b⟩ := hb
      have hA'l : i = A'.length + 1 := by rw [← hAl, hA]; simp
      have hk2 : (t.nd a).ks = A' ++ b :: c :: (t.nd a).ks.drop (i + 1) := by rw [hA] at hk; simpa using hk
      have hg2 : (t.nd a).ks.getD (i - 1) 0 = b := by rw [hA'l, Nat.add_sub_cancel, hk2, getD_at]
      have hE : fillT t a i = (i, rotL t a i) := by unfold fillT; rw [hg1, if_neg h5, hg2, if_pos ⟨by omega, h5b⟩]
      have := fill_rotL h hg hk2 h5b (by omega) hn
      rw [← hA'l] at this
      rw [hE]; exact this
    · have hleft : ∀ A' b, (t.nd a).ks.take i = A' ++ [b] → (t.nd b).ps.length = 4 := fun A' b hA => by
        have h6 : ¬ 4 < (t.nd b).ps.length := fun h6 => hb ⟨A', b, hA, h6⟩
        have := (hok.2.2.2 b (by rw [hk, hA]; simp)).2
        omega
      have := fill_low h hg hk h1 (by omega) hleft hn hf
      rw [hAl] at this
      exact this
end
end Go.Proofs.Yteoibolompiohaa
