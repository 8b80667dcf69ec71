/- Plain: three files laid and synced, one moved onto another. No program in sight. Conditions: as each theorem says. -/
import Derived.Test.YtbaffabemomgjaaDskO
namespace Go.Proofs.Ytbaffabemomgjaa
open Go.RowKit

/-- The first so many of the files are there, synced. -/
structure Mv (N X : Nat → Bys) (i : Nat) (d : Dk) : Prop where
  fit : d.fit
  lim : d.limit = 1048576
  arm : d.armed = 0
  live : d.dead = false
  len : d.m.length = i
  tot : total d.m ≤ 500 * i
  get : ∀ j, j < i → getM d.m (N j) = some ⟨X j, (X j).length⟩
  mem : ∀ p ∈ d.m, p.2.s = p.2.d.length ∧ ∃ j, j < i ∧ p.1 = N j
theorem Mv.zero (N X : Nat → Bys) : Mv N X 0 (newD 1048576) :=
  ⟨⟨List.Pairwise.nil, by decide, by decide, by decide, fun p hp => (by cases hp), by decide⟩, rfl, rfl, rfl, rfl, Nat.le_refl _, fun j hj => by omega, fun p hp => by cases hp⟩
theorem act_idle {d : Dk} (h : d.armed = 0) : actD d = d := by unfold actD; rw [if_neg (by omega)]
theorem put_length_new {M : Dir} {k : Bys} (h : getM M k = none) (f : Fil) : (putM M k f).length = M.length + 1 := by
  unfold putM
  rw [ins_length, del_none (get_none.1 h)]
theorem put_put {M : Dir} (k : Bys) (f g : Fil) : delM (putM M k f) k = delM M k := by
  have : ∀ (L : Dir), (∀ p ∈ L, p.1 ≠ k) → delM (insM (k, f) L) k = L := by
    intro L
    induction L with
    | nil => intro _; simp [insM, delM]
    | cons y r ih =>
      intro h
      have hy : y.1 ≠ k := h y (by simp)
      have hr : ∀ p ∈ r, p.1 ≠ k := fun p hp => h p (List.mem_cons_of_mem _ hp)
      unfold insM
      split
      · have e := del_none h
        unfold delM at e ⊢
        rw [List.filter_cons, if_neg (by simp), e]
      · have e := ih hr
        unfold delM at e ⊢
        rw [List.filter_cons, if_pos (by simp [hy]), e]
  unfold putM
  exact this _ (fun p hp => (del_mem.1 hp).2)
/-- A round: laid, then synced. -/
theorem Mv.app {N X : Nat → Bys} {i : Nat} {d : Dk} (h : Mv N X i d) (hi : i < 3) (hn : N i ≠ []) (hx : (X i).length ≤ 500) (hne : ∀ j, j < i → N j ≠ N i) :
    (appendD d (N i) (X i)).2 = 0 ∧ (appendD d (N i) (X i)).1.fit ∧ (appendD d (N i) (X i)).1.m.length ≤ 3 ∧ (syncD (appendD d (N i) (X i)).1 (N i)).2 = 0 ∧ Mv N X (i + 1) (syncD (appendD d (N i) (X i)).1 (N i)).1 := by
  have hg : getM d.m (N i) = none := by
    refine get_none.2 (fun p hp => ?_)
    obtain ⟨_, j, hj, e⟩ := h.mem p hp
    rw [e]; exact hne j hj
  have hF : getF d.m (N i) = ⟨[], 0⟩ := by unfold getF; rw [hg]; rfl
  have ht := h.tot
  have hlim : ¬ d.limit - total d.m < (X i).length := by rw [h.lim]; omega
  have hA : appendD d (N i) (X i) = ({ d with m := putM d.m (N i) ⟨X i, 0⟩ }, 0) := by
    have hv := h.live
    have ha := h.arm
    unfold appendD
    rw [hF, act_idle (by exact ha)]
    unfold livesD
    simp only [List.nil_append]
    rw [if_neg (by rw [hv]; decide), if_neg hn, if_neg hlim, if_neg (by rw [hv]; decide)]
  have hfit : (appendD d (N i) (X i)).1.fit := by
    have := append_fit0 h.fit (N i) (X i) hlim
    rw [hF] at this
    rw [hA]
    exact this
  rw [hA] at hfit ⊢
  simp only at hfit ⊢
  have hgs := get_put_same h.fit.sorted (N i) ⟨X i, 0⟩
  have hF2 : getF (putM d.m (N i) ⟨X i, 0⟩) (N i) = ⟨X i, 0⟩ := by unfold getF; rw [hgs]; rfl
  have hpp : putM (putM d.m (N i) ⟨X i, 0⟩) (N i) ⟨X i, (X i).length⟩ = putM d.m (N i) ⟨X i, (X i).length⟩ := by
    unfold putM
    exact congrArg _ (put_put (N i) ⟨X i, 0⟩ ⟨X i, 0⟩)
  have hS : syncD { d with m := putM d.m (N i) ⟨X i, 0⟩ } (N i) = ({ d with m := putM d.m (N i) ⟨X i, (X i).length⟩ }, 0) := by
    have h1 : thereD { d with m := putM d.m (N i) ⟨X i, 0⟩ } (N i) = 0 := by
      unfold thereD
      simp only
      rw [h.live, if_neg (by decide), hgs]; rfl
    unfold syncD
    rw [h1, if_neg (by decide), act_idle (by exact h.arm)]
    simp only
    rw [if_neg (by rw [h.live]; decide), hF2, hpp]
  have hln := put_length_new hg (⟨X i, 0⟩ : Fil)
  have hln2 := put_length_new hg (⟨X i, (X i).length⟩ : Fil)
  have hl := h.len
  have htp := total_put h.fit.sorted (N i) ⟨X i, (X i).length⟩
  rw [hg] at htp
  simp only [sizeOf_] at htp
  rw [hS]
  refine ⟨trivial, hfit, by omega, rfl, ⟨⟨put_sorted h.fit.sorted _ _, h.fit.lo, h.fit.hi, ?_, ?_, h.fit.armed⟩, h.lim, h.arm, h.live, by simp only; omega, by simp only; omega, ?_, ?_⟩⟩
  · simp only; rw [h.lim]; omega
  · exact put_synced h.fit.synced _ (by simp only; omega)
  · intro j hj
    by_cases hji : j = i
    · subst hji; exact get_put_same h.fit.sorted _ _
    · rw [get_put_other h.fit.sorted (hne j (by omega))]
      exact h.get j (by omega)
  · intro p hp
    rcases ins_mem.1 hp with e | hp
    · rw [e]; exact ⟨rfl, i, by omega, rfl⟩
    · obtain ⟨h1, j, hj, e⟩ := h.mem p (del_mem.1 hp).1
      exact ⟨h1, j, by omega, e⟩
theorem crash_synced {M : Dir} (h : ∀ p ∈ M, p.2.s = p.2.d.length) (ks : List Int) : crashM M ks = M := by
  induction M with
  | nil => rfl
  | cons p r ih =>
    have hp := h p (by simp)
    rw [crash_cons, if_pos (by omega), ih (fun q hq => h q (List.mem_cons_of_mem _ hq))]
theorem del_length {M : Dir} (h : M.sorted) {k : Bys} {f : Fil} (hg : getM M k = some f) : (delM M k).length + 1 = M.length := by
  have h1 := put_length_same hg f
  have h2 : (putM M k f).length = (delM M k).length + 1 := by unfold putM; rw [ins_length]
  have h3 : ∀ (L : Dir), L.sorted → L.length ≤ (delM L k).length + 1 := by
    intro L
    induction L with
    | nil => intro _; simp
    | cons y r ih =>
      intro hs
      unfold Dir.sorted at hs
      obtain ⟨s1, s2⟩ := List.pairwise_cons.1 hs
      by_cases e : y.1 = k
      · have hr : ∀ p ∈ r, p.1 ≠ k := fun p hp q => before_ne (s1 p hp) (by rw [e, q])
        have := del_none hr
        unfold delM at this ⊢
        rw [List.filter_cons, if_neg (by simp [e]), this]; simp
      · have := ih s2
        unfold delM at this ⊢
        rw [List.filter_cons, if_pos (by simp [e])]
        simp only [List.length_cons]
        omega
  have := h3 M h
  omega
/-- What the move leaves. -/
structure Mvd (N X : Nat → Bys) (d : Dk) : Prop where
  fit : d.fit
  live : d.dead = false
  len : d.m.length = 2
  tot : total d.m = (X 0).length + (X 2).length
  g0 : getM d.m (N 0) = none
  g1 : getM d.m (N 1) = some ⟨X 0, (X 0).length⟩
  g2 : getM d.m (N 2) = some ⟨X 2, (X 2).length⟩
theorem Mv.move {N X : Nat → Bys} {d : Dk} (h : Mv N X 3 d) (hn : N 1 ≠ []) (h01 : N 0 ≠ N 1) (h02 : N 0 ≠ N 2) (h12 : N 1 ≠ N 2) (hx : (X 0).length ≤ 500) (hx2 : (X 2).length ≤ 500) :
    (renameD d (N 0) (N 1)).2 = 0 ∧ (renameD d (N 0) (N 1)).1.fit ∧ (renameD d (N 0) (N 1)).1.m.length = 2 ∧ Mvd N X (crashD (renameD d (N 0) (N 1)).1 []) := by
  have g0 := h.get 0 (by omega)
  have g1 := h.get 1 (by omega)
  have g2 := h.get 2 (by omega)
  have hs := h.fit.sorted
  have hsd := del_sorted hs (N 0)
  have hF : getF d.m (N 0) = ⟨X 0, (X 0).length⟩ := by unfold getF; rw [g0]; rfl
  have hR : renameD d (N 0) (N 1) = ({ d with m := putM (delM d.m (N 0)) (N 1) ⟨X 0, (X 0).length⟩ }, 0) := by
    have h1 : thereD d (N 0) = 0 := by unfold thereD; rw [h.live, if_neg (by decide), g0]; rfl
    unfold renameD
    rw [if_neg (by rw [h.live]; decide), if_neg hn, h1, if_neg (by decide), act_idle h.arm, if_neg (by rw [h.live]; decide), hF]
  have l1 := del_length hs g0
  have gd1 : getM (delM d.m (N 0)) (N 1) = some ⟨X 1, (X 1).length⟩ := by rw [get_del_other hs (Ne.symm h01)]; exact g1
  have l2 := del_length hsd gd1
  have l3 : (putM (delM d.m (N 0)) (N 1) ⟨X 0, (X 0).length⟩).length = 2 := by
    unfold putM
    rw [ins_length]
    have := h.len
    omega
  -- the three files' sum
  have t1 := total_del hs (N 0)
  rw [g0] at t1
  have t2 := total_del hsd (N 1)
  rw [gd1] at t2
  have gd2 : getM (delM (delM d.m (N 0)) (N 1)) (N 2) = some ⟨X 2, (X 2).length⟩ := by
    rw [get_del_other hsd (Ne.symm h12), get_del_other hs (Ne.symm h02)]; exact g2
  have l4 := del_length (del_sorted hsd (N 1)) gd2
  have t3 := total_del (del_sorted hsd (N 1)) (N 2)
  rw [gd2] at t3
  have hl := h.len
  have l5 : delM (delM (delM d.m (N 0)) (N 1)) (N 2) = [] := List.length_eq_zero_iff.1 (by omega)
  rw [l5] at t3
  have t4 := total_put hsd (N 1) ⟨X 0, (X 0).length⟩
  rw [gd1] at t4
  simp only [sizeOf_] at t1 t2 t3 t4
  have t5 : total ([] : Dir) = 0 := rfl
  have hsyn : ∀ p ∈ putM (delM d.m (N 0)) (N 1) ⟨X 0, (X 0).length⟩, p.2.s = p.2.d.length := by
    intro p hp
    rcases ins_mem.1 hp with e | hp
    · rw [e]
    · exact (h.mem p (del_mem.1 (del_mem.1 hp).1).1).1
  have hfit : ({ d with m := putM (delM d.m (N 0)) (N 1) ⟨X 0, (X 0).length⟩ } : Dk).fit := by
    refine ⟨put_sorted hsd _ _, h.fit.lo, h.fit.hi, ?_, fun p hp => ?_, h.fit.armed⟩
    · simp only; rw [h.lim]; omega
    · have := hsyn p hp; omega
  rw [hR]
  refine ⟨rfl, hfit, l3, ?_⟩
  unfold crashD
  simp only
  rw [crash_synced hsyn]
  exact ⟨⟨hfit.sorted, hfit.lo, hfit.hi, hfit.used, hfit.synced, by simp only; omega⟩, rfl, l3, by simp only; omega,
    by simp only; rw [get_put_other hsd h01]; exact get_del_same _, get_put_same hsd _ _, by simp only; rw [get_put_other hsd (Ne.symm h12), get_del_other hs (Ne.symm h02)]; exact g2⟩
theorem Mvd.reads {N X : Nat → Bys} {d : Dk} (h : Mvd N X d) : readD d (N 1) = (X 0, 0) ∧ readD d (N 2) = (X 2, 0) ∧ readD d (N 0) = ([], 21) ∧ (namesD d).length = 2 ∧ usedD d = (X 0).length + (X 2).length := by
  have hr : ∀ k f, getM d.m k = some f → readD d k = (f.d, 0) := by
    intro k f hg
    have h1 : thereD d k = 0 := by unfold thereD; rw [h.live, if_neg (by decide), hg]; rfl
    unfold readD
    rw [h1, if_neg (by decide)]
    unfold getF
    rw [hg]; rfl
  refine ⟨hr _ _ h.g1, hr _ _ h.g2, ?_, ?_, ?_⟩
  · have h1 : thereD d (N 0) = 21 := by unfold thereD; rw [h.live, if_neg (by decide), h.g0]; rfl
    unfold readD
    rw [h1, if_pos (by decide)]
  · unfold namesD
    rw [h.live, if_neg (by decide), List.length_map]
    exact h.len
  · unfold usedD
    rw [h.live, if_neg (by decide)]
    exact h.tot
end Go.Proofs.Ytbaffabemomgjaa
