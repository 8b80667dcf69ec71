/- Plain: the laws of Save, Load and Tidy over a disk's model. No program in sight. Conditions: as each theorem says. -/
import Derived.Test.YtbaffabemomgjaaGreatDoorKepP
namespace Go.Proofs.YtbaffabemomgjaaGreatDoor
open Go.RowKit

def encB (b : Bys) : Fil := ⟨frameL b, (frameL b).length⟩
theorem save_idle {d : Dk} (hf : d.fit) (hd : d.dead = false) (ha : d.armed = 0) {k x : Bys} (hk : rightN k = true) (h1 : 1 ≤ x.length) (h2 : x.length ≤ 65536) (hl : (total d.m : Int) + 8 + x.length ≤ d.limit) (hn : getM d.m (freshN k) = none) :
    saveD d k x = ({ d with m := putM d.m (fileN k) (encB x) }, 0) := by
  obtain ⟨c1, c2⟩ := save_cases hf hd hk h1 h2 hl
  rcases c2 with ⟨_, c3, _⟩ | ⟨c3, c4, c5, c6⟩
  · exact absurd ha c3
  rw [del_idle hn] at c6
  have c5 := c5 ha
  generalize saveD d k x = r at *
  obtain ⟨⟨m, l, a, e⟩, z⟩ := r
  simp only at c1 c3 c4 c5 c6
  rw [c1, c3, c4, c5, c6, hd, ha]
  rfl
theorem append_idle {d : Dk} (hd : d.dead = false) (ha : d.armed = 0) {k x : Bys} (hk : k ≠ []) (hl : (total d.m : Int) + x.length ≤ d.limit) (hn : getM d.m k = none) : appendD d k x = ({ d with m := putM d.m k ⟨x, 0⟩ }, 0) := by
  unfold appendD
  rw [if_neg (by rw [hd]; decide), if_neg hk, if_neg (by omega), getF_none hn, act_idle (d := { d with m := putM d.m k ⟨([] : Bys) ++ x, 0⟩ }) ha]
  unfold livesD
  simp [hd]
theorem sync_idle {d : Dk} (hd : d.dead = false) (ha : d.armed = 0) {k : Bys} {f : Fil} (hg : getM d.m k = some f) : syncD d k = ({ d with m := putM d.m k ⟨f.d, f.d.length⟩ }, 0) := by
  unfold syncD
  rw [if_neg (by rw [there_ok hd hg]; decide), act_idle ha, if_neg (by rw [hd]; decide), getF_some hg]
theorem remove_idle {d : Dk} (hd : d.dead = false) (ha : d.armed = 0) {k : Bys} (hg : (getM d.m k).isSome = true) : removeD d k = ({ d with m := delM d.m k }, 0) := by
  obtain ⟨f, hg⟩ := Option.isSome_iff_exists.1 hg
  unfold removeD
  rw [if_neg (by rw [there_ok hd hg]; decide), act_idle ha, if_neg (by rw [hd]; decide)]
theorem read_there {d : Dk} (hd : d.dead = false) {k : Bys} {f : Fil} (hg : getM d.m k = some f) : readD d k = (f.d, 0) := by
  unfold readD
  rw [if_neg (by rw [there_ok hd hg]; decide), getF_some hg]

/-- What else stands on a disk. -/
structure Ko (k : Bys) (E : Dir) : Prop where
  sorted : E.sorted
  noT : getM E (fileN k) = none
  noF : getM E (freshN k) = none
  syn : ∀ p ∈ E, p.2.s = p.2.d.length
  tot : total E ≤ 508
  len : E.length ≤ 1
  tmp : ∀ p ∈ E, isTmp p.1 = false
def okK (o : Option Bys) : Prop := ∀ b, o = some b → 1 ≤ b.length ∧ b.length ≤ 500
/-- A disk on which a text is kept under one name, or none. -/
structure Kd (k : Bys) (E : Dir) (kept : Option Bys) (d : Dk) : Prop where
  fit : d.fit
  lim : d.limit = 1048576
  live : d.dead = false
  file : getM d.m (fileN k) = kept.map encB
  frs : ∀ f, getM d.m (freshN k) = some f → f.d.length ≤ 508
  oth : ∀ j, j ≠ fileN k → j ≠ freshN k → getM d.m j = getM E j
theorem del_length1 : ∀ {M : Dir} (_ : M.sorted) (k : Bys), M.length ≤ (delM M k).length + 1 := by
  intro M
  induction M with
  | nil => intro _ _; simp
  | cons y r ih =>
    intro hs k
    unfold Dir.sorted at hs
    obtain ⟨s1, s2⟩ := List.pairwise_cons.1 hs
    by_cases e : y.1 = k
    · have hr : ∀ p ∈ r, p.1 ≠ k := fun p hp q => before_ne (s1 p hp) (by rw [e, q])
      have := del_none hr
      unfold delM at this ⊢
      rw [List.filter_cons, if_neg (by simp [e]), this]; simp
    · have := ih s2 k
      unfold delM at this ⊢
      rw [List.filter_cons, if_pos (by simp [e])]
      simp only [List.length_cons]
      omega
section
variable {k : Bys} {E : Dir} {kept : Option Bys} {d : Dk}
theorem Kd.rest (h : Kd k E kept d) (ho : Ko k E) (hk : rightN k = true) : delM (delM d.m (fileN k)) (freshN k) = E := by
  have hs := h.fit.sorted
  have hTF := file_fresh hk k
  refine dir_ext (del_sorted (del_sorted hs _) _) ho.sorted (fun j => ?_)
  by_cases e1 : j = freshN k
  · rw [e1, get_del_same, ho.noF]
  rw [get_del_other (del_sorted hs _) e1]
  by_cases e2 : j = fileN k
  · rw [e2, get_del_same, ho.noT]
  rw [get_del_other hs e2]
  exact h.oth j e2 e1
theorem Kd.sizes (h : Kd k E kept d) (ho : Ko k E) (hk : rightN k = true) (hx : okK kept) : total d.m ≤ 1524 ∧ d.m.length ≤ 3 := by
  have hs := h.fit.sorted
  have hr := h.rest ho hk
  have t1 := total_del hs (fileN k)
  have t2 := total_del (del_sorted hs (fileN k)) (freshN k)
  have l1 := del_length1 hs (fileN k)
  have l2 := del_length1 (del_sorted hs (fileN k)) (freshN k)
  rw [get_del_other hs (fun e => file_fresh hk k e.symm)] at t2
  rw [hr] at t2 l2
  have := ho.tot
  have := ho.len
  have hf : sizeOf_ (getM d.m (freshN k)) ≤ 508 := by
    cases hg : getM d.m (freshN k) with
    | none => exact Nat.zero_le _
    | some f => exact h.frs f hg
  have ht : sizeOf_ (getM d.m (fileN k)) ≤ 508 := by
    rw [h.file]
    cases kept with
    | none => exact Nat.zero_le _
    | some b =>
      have := hx b rfl
      show (frameL b).length ≤ 508
      rw [frame_length]; omega
  omega
theorem Kd.crash {d' : Dk} (ho : Ko k E) (hf : d'.fit) (hl : d'.limit = 1048576) (file : getM d'.m (fileN k) = kept.map encB) (frs : ∀ f, getM d'.m (freshN k) = some f → f.d.length ≤ 508)
    (oth : ∀ j, j ≠ fileN k → j ≠ freshN k → getM d'.m j = getM E j) (ks : List Int) : Kd k E kept (crashD d' ks) := by
  refine ⟨crash_fit hf ks, hl, rfl, ?_, fun f hg => ?_, fun j h1 h2 => ?_⟩
  · show getM (crashM d'.m ks) _ = _
    obtain ⟨c1, c2⟩ := crash_get (fileN k) d'.m ks
    cases kept with
    | none => rw [c1 file]; rfl
    | some b =>
      obtain ⟨f', e1, e2, _⟩ := c2 _ file
      rw [e1, e2 rfl]; rfl
  · obtain ⟨c1, c2⟩ := crash_get (freshN k) d'.m ks
    cases hq : getM d'.m (freshN k) with
    | none => have := c1 hq; rw [show getM (crashM d'.m ks) (freshN k) = some f from hg] at this; cases this
    | some f0 =>
      obtain ⟨f', e1, _, e3⟩ := c2 _ hq
      rw [show getM (crashM d'.m ks) (freshN k) = some f from hg] at e1
      have := frs f0 hq
      rw [Option.some.inj e1]
      omega
  · show getM (crashM d'.m ks) j = _
    obtain ⟨c1, c2⟩ := crash_get j d'.m ks
    have hj := oth j h1 h2
    cases hq : getM E j with
    | none => rw [hq] at hj; exact c1 hj
    | some f0 =>
      rw [hq] at hj
      obtain ⟨f', e1, e2, _⟩ := c2 _ hj
      rw [e1, e2 (ho.syn _ (get_mem hq))]
/-- A Save, and a crash behind it. -/
theorem Kd.round (h : Kd k E kept d) (ho : Ko k E) (hk : rightN k = true) (hx : okK kept) {x : Bys} (h1 : 1 ≤ x.length) (h2 : x.length ≤ 500) (ks : List Int) :
    ((saveD d k x).2 = 0 ∧ Kd k E (some x) (crashD (saveD d k x).1 ks)) ∨ ((saveD d k x).2 = 20 ∧ Kd k E kept (crashD (saveD d k x).1 ks)) := by
  obtain ⟨t1, t2⟩ := h.sizes ho hk hx
  have hTF := file_fresh hk k
  have hs := h.fit.sorted
  have hlen := frame_length x
  have hfit := save_fit h.fit k x
  obtain ⟨c1, c2⟩ := save_cases h.fit h.live hk h1 (by omega) (by rw [h.lim]; omega)
  have hs1 := del_sorted hs (freshN k)
  have hg1 : ∀ j, j ≠ freshN k → getM (delM d.m (freshN k)) j = getM d.m j := fun j hj => get_del_other hs hj
  rcases c2 with ⟨r1, _, hm⟩ | ⟨r1, _, _, hm⟩
  · refine .inr ⟨r1, ?_⟩
    rcases hm with hm | ⟨s, _, hm⟩
    · refine Kd.crash ho hfit (c1.trans h.lim) ?_ ?_ ?_ ks
      · rw [hm]; exact h.file
      · rw [hm]; exact h.frs
      · rw [hm]; exact h.oth
    · refine Kd.crash ho hfit (c1.trans h.lim) ?_ ?_ ?_ ks
      · rw [hm, get_put_other hs1 hTF, hg1 _ hTF]; exact h.file
      · intro f hg
        rw [hm, get_put_same hs1] at hg
        rw [← Option.some.inj hg]
        show (frameL x).length ≤ 508
        omega
      · intro j j1 j2
        rw [hm, get_put_other hs1 j2, hg1 _ j2]; exact h.oth j j1 j2
  · refine .inl ⟨r1, Kd.crash ho hfit (c1.trans h.lim) ?_ ?_ ?_ ks⟩
    · rw [hm, get_put_same hs1]; rfl
    · intro f hg
      rw [hm, get_put_other hs1 (fun e => hTF e.symm), get_del_same] at hg
      cases hg
    · intro j j1 j2
      rw [hm, get_put_other hs1 j1, hg1 _ j2]; exact h.oth j j1 j2
theorem Kd.arm (h : Kd k E kept d) {n : Int} (h0 : 0 ≤ n) (h1 : n < 9223372036854775808) : (armD d n).2 = 0 ∧ Kd k E kept (armD d n).1 := by
  have e : armD d n = ({ d with armed := n }, 0) := by unfold armD; rw [if_neg (by rw [h.live]; decide), if_neg (by omega)]
  have hf := arm_fit h.fit n h1
  rw [e] at hf ⊢
  exact ⟨rfl, hf, h.lim, h.live, h.file, h.frs, h.oth⟩
theorem Kd.load (h : Kd k E kept d) (hk : rightN k = true) (hx : okK kept) : loadD d k = (kept.getD [], if kept.isSome then 0 else 21) := by
  have hf := h.file
  cases kept with
  | none => rw [load_none h.live hk hf]; rfl
  | some b =>
    have := hx b rfl
    rw [load_some h.live hk this.1 (by omega) hf]; rfl
/-! Tidy. -/
theorem tidyL_get : ∀ (L : List Bys) (d : Dk), d.fit → d.dead = false → d.armed = 0 → L.Nodup → (∀ j ∈ L, (getM d.m j).isSome = true) →
    (tidyL L d).2 = 0 ∧ (tidyL L d).1.fit ∧ (tidyL L d).1.dead = false ∧ (tidyL L d).1.limit = d.limit ∧ ∀ j, getM (tidyL L d).1.m j = if j ∈ L ∧ isTmp j = true then none else getM d.m j := by
  intro L
  induction L with
  | nil => intro d hf hd ha _ _; exact ⟨rfl, hf, hd, rfl, fun j => by simp [tidyL]⟩
  | cons q r ih =>
    intro d hf hd ha hn hp
    obtain ⟨n1, n2⟩ := List.nodup_cons.1 hn
    by_cases ht : isTmp q = true
    · have er := remove_idle hd ha (hp q (by simp))
      have hfr := remove_fit hf q
      rw [er] at hfr
      obtain ⟨i1, i2, i3, i4, i5⟩ := ih { d with m := delM d.m q } hfr hd ha n2 (fun j hj => by
        show (getM (delM d.m q) j).isSome = true
        rw [get_del_other hf.sorted (fun e => n1 (by rw [← e]; exact hj))]
        exact hp j (List.mem_cons_of_mem _ hj))
      have et : tidyL (q :: r) d = tidyL r { d with m := delM d.m q } := by
        unfold tidyL
        rw [if_pos ht, er, thenD_ok rfl]
        cases r <;> rfl
      rw [et]
      refine ⟨i1, i2, i3, i4, fun j => ?_⟩
      rw [i5 j]
      by_cases e : j = q
      · rw [e, if_neg (fun c => n1 c.1), if_pos ⟨by simp, ht⟩]
        exact get_del_same q
      · show (if j ∈ r ∧ isTmp j = true then none else getM (delM d.m q) j) = _
        rw [get_del_other hf.sorted e]
        simp [e]
    · have et : tidyL (q :: r) d = tidyL r d := by
        rw [show tidyL (q :: r) d = if isTmp q then thenD (removeD d q) fun d1 => tidyL r d1 else tidyL r d from rfl, if_neg ht]
      rw [et]
      obtain ⟨i1, i2, i3, i4, i5⟩ := ih d hf hd ha n2 (fun j hj => hp j (List.mem_cons_of_mem _ hj))
      refine ⟨i1, i2, i3, i4, fun j => ?_⟩
      rw [i5 j]
      by_cases e : j = q
      · rw [e]; simp [ht]
      · simp [e]
theorem names_nodup {M : Dir} (h : M.sorted) : (M.map (·.1)).Nodup := by
  unfold Dir.sorted at h
  refine List.Pairwise.map _ ?_ h
  intro a b hab
  exact before_ne hab
theorem names_get {M : Dir} (h : M.sorted) (j : Bys) : j ∈ M.map (·.1) ↔ (getM M j).isSome = true := by
  rw [List.mem_map]
  constructor
  · rintro ⟨p, hp, rfl⟩
    rw [get_of_mem h (show (p.1, p.2) ∈ M from hp)]; rfl
  · intro hs
    obtain ⟨f, hg⟩ := Option.isSome_iff_exists.1 hs
    exact ⟨(j, f), get_mem hg, rfl⟩
/-- What a Tidy leaves. -/
theorem Kd.tidy (h : Kd k E kept d) (ho : Ko k E) (hk : rightN k = true) (ha : d.armed = 0) :
    (tidyD d).2 = 0 ∧ Kd k E kept (tidyD d).1 ∧ (tidyD d).1.m = (match kept with | some b => putM E (fileN k) (encB b) | none => E) := by
  have hs := h.fit.sorted
  have hTF := file_fresh hk k
  have et : tidyD d = tidyL (d.m.map (·.1)) d := by unfold tidyD; rw [if_neg (by rw [h.live]; decide)]
  obtain ⟨i1, i2, i3, i4, i5⟩ := tidyL_get (d.m.map (·.1)) d h.fit h.live ha (names_nodup hs) (fun j hj => (names_get hs j).1 hj)
  rw [← et] at i1 i2 i3 i4 i5
  have g1 : ∀ j, isTmp j = false → getM (tidyD d).1.m j = getM d.m j := fun j hj => by rw [i5, if_neg (by rw [hj]; simp)]
  have gT : getM (tidyD d).1.m (fileN k) = kept.map encB := by rw [g1 _ (file_tmp hk), h.file]
  have gF : getM (tidyD d).1.m (freshN k) = none := by
    rw [i5]
    by_cases hg : freshN k ∈ d.m.map (·.1)
    · rw [if_pos ⟨hg, fresh_tmp k⟩]
    · rw [if_neg (fun c => hg c.1)]
      rw [names_get hs] at hg
      simpa using hg
  have gO : ∀ j, j ≠ fileN k → j ≠ freshN k → getM (tidyD d).1.m j = getM E j := fun j j1 j2 => by
    rw [i5, h.oth j j1 j2]
    cases hq : getM E j with
    | none => split <;> rfl
    | some f =>
      have := ho.tmp _ (get_mem hq)
      rw [if_neg (by rw [this]; simp)]
  refine ⟨i1, ⟨i2, i4.trans h.lim, i3, gT, fun f hf => (by rw [gF] at hf; cases hf), gO⟩, ?_⟩
  cases kept with
  | none =>
    refine dir_ext i2.sorted ho.sorted (fun j => ?_)
    by_cases e1 : j = fileN k
    · rw [e1, gT, ho.noT]; rfl
    by_cases e2 : j = freshN k
    · rw [e2, gF, ho.noF]
    exact gO j e1 e2
  | some b =>
    refine dir_ext i2.sorted (put_sorted ho.sorted _ _) (fun j => ?_)
    by_cases e1 : j = fileN k
    · rw [e1, gT, get_put_same ho.sorted]; rfl
    rw [get_put_other ho.sorted e1]
    by_cases e2 : j = freshN k
    · rw [e2, gF, ho.noF]
    exact gO j e1 e2
theorem Kd.tidy_names (h : Kd k E kept d) (ho : Ko k E) (hk : rightN k = true) (ha : d.armed = 0) : (tidyD d).1.m.length = E.length + (if kept.isSome then 1 else 0) := by
  rw [(h.tidy ho hk ha).2.2]
  cases kept with
  | none => rfl
  | some b => exact put_length_new ho.noT _
theorem crash_armed (d : Dk) (ks : List Int) : (crashD d ks).armed = 0 := rfl
end
theorem ko_nil (k : Bys) : Ko k [] := ⟨List.Pairwise.nil, rfl, rfl, fun p hp => (by cases hp), by decide, by decide, fun p hp => (by cases hp)⟩
theorem kd_new (k : Bys) : Kd k [] none (⟨[], 1048576, 0, false⟩) :=
  ⟨⟨List.Pairwise.nil, by decide, by decide, by decide, fun p hp => (by cases hp), by decide⟩, rfl, rfl, rfl, fun f hf => (by cases hf), fun j _ _ => rfl⟩
end Go.Proofs.YtbaffabemomgjaaGreatDoor
