/- The walk of Right. Conditions: as each theorem says. -/
import Derived.Test.YteoibolompiohaaIdxRa
namespace Go.Proofs.Yteoibolompiohaa
open Go.RowKit

theorem kLt_zero : ∀ {a b : Key}, kLt a b = true → kLt b (a ++ [0]) = false := by
  unfold kLt
  intro a
  induction a with
  | nil =>
    intro b h
    cases b with
    | nil => simp [Op.bytesLess] at h
    | cons x b =>
      have : ¬ x < 0 := by simp
      cases b <;> simp [Op.bytesLess, this]
  | cons y a ih =>
    intro b h
    cases b with
    | nil => simp [Op.bytesLess] at h
    | cons x b =>
      simp only [Op.bytesLess, Bool.or_eq_true, decide_eq_true_eq, Bool.and_eq_true, beq_iff_eq] at h
      rw [List.cons_append]
      simp only [Op.bytesLess, Bool.or_eq_false_iff, decide_eq_false_iff_not, Bool.and_eq_false_iff, beq_eq_false_iff_ne]
      rcases h with h | ⟨rfl, h⟩
      · exact ⟨UInt8.lt_asymm h, .inl (fun e => by subst e; exact UInt8.lt_irrefl _ h)⟩
      · exact ⟨UInt8.lt_irrefl _, .inr (ih h)⟩
theorem kLt_nil (a : Key) : kLt a [] = false := by unfold kLt; cases a <;> simp [Op.bytesLess]
theorem weave_sub : ∀ (Ls : List (List Pr)) (ps : List Pr), Ls.length = ps.length + 1 → ps.Sublist (weave Ls ps) := by
  intro Ls
  induction Ls with
  | nil => intro ps h; simp at h
  | cons L Ls ih =>
    intro ps h
    cases ps with
    | nil => simp
    | cons p ps =>
      rw [weave]
      exact List.Sublist.trans (List.Sublist.cons_cons p (ih ps (by simpa using h))) (List.sublist_append_right _ _)
section
variable {m : Mem} {t : Tr} {w : World} {d a : Nat}
theorem ps_mem (h : t.ok d a) {p : Pr} (hp : p ∈ (t.nd a).ps) : p ∈ t.cont d a := by
  cases d with
  | zero => exact hp
  | succ d =>
    rw [Tr.ok] at h
    rw [Tr.cont]
    exact (weave_mem (by simp [h.2.1])).2 (.inl hp)
theorem ps_sorted (h : t.ok d a) (hs : SortedK (t.cont d a)) : SortedK (t.nd a).ps := by
  cases d with
  | zero => exact hs
  | succ d =>
    rw [Tr.ok] at h
    rw [Tr.cont] at hs
    exact List.Pairwise.sublist (weave_sub _ _ (by simp [h.2.1])) hs
/-- What is below a kid lies between. -/
theorem kid_between (h : t.ok (d + 1) a) (hs : SortedK (t.cont (d + 1) a)) (i : Nat) (hi : i < (t.nd a).ks.length) (p : Pr) (hp : p ∈ t.cont d (t.nd a).ks[i]) : p ∈ t.cont (d + 1) a ∧
    (0 < i → kLt ((t.nd a).ps.getD (i - 1) pr0).1 p.1 = true) ∧ (i < (t.nd a).ps.length → kLt p.1 ((t.nd a).ps.getD i pr0).1 = true) := by
  have hk := h
  rw [Tr.ok] at hk
  have hl : ((t.nd a).ks.map fun k => t.cont d k).length = (t.nd a).ps.length + 1 := by simp [hk.2.1]
  have hmem : t.cont d (t.nd a).ks[i] ∈ (t.nd a).ks.map fun k => t.cont d k := List.mem_map_of_mem (List.getElem_mem hi)
  refine ⟨?_, fun h0 => ?_, fun h1 => ?_⟩
  · rw [Tr.cont]
    exact (weave_mem hl).2 (.inr ⟨_, hmem, hp⟩)
  · have hj : i - 1 < (t.nd a).ps.length := by omega
    have e := weave_split _ _ (i - 1) hl (by simp; omega)
    rw [wpost_at _ _ _ hj hl, show i - 1 + 1 = i by omega] at e
    rw [Tr.cont, e, SortedK.append, SortedK.cons] at hs
    have hpm : p ∈ weave (((t.nd a).ks.map fun k => t.cont d k).drop i) ((t.nd a).ps.drop i) := by
      refine (weave_mem (by simp; omega)).2 (.inr ⟨_, ?_, hp⟩)
      rw [← List.map_drop]
      refine List.mem_map_of_mem ?_
      rw [List.drop_eq_getElem_cons hi]
      exact List.mem_cons_self
    have h1 := hs.2.1.1 p hpm
    have e2 : (t.nd a).ps.getD (i - 1) pr0 = (t.nd a).ps[i - 1] := by simp [List.getD, hj]
    rw [e2]; exact h1
  · have e := weave_split _ _ i hl (by simpa using hi)
    rw [wpost_at _ _ _ h1 hl, List.getElem_map] at e
    rw [Tr.cont, e, SortedK.append, SortedK.append] at hs
    have h2 := hs.2.2 p (by simp [hp]) ((t.nd a).ps[i]) (by simp)
    have e2 : (t.nd a).ps.getD i pr0 = (t.nd a).ps[i] := by simp [List.getD, h1]
    rw [e2]; exact h2
theorem right_any : ∀ (d a : Nat) (fr tk : Key) (w : World), TreeAt m t w → t.nodes.length ≤ 1000000 → t.ok d a → SortedK (t.cont d a) → (∀ p ∈ t.cont d a, kLt p.1 fr = false ∧ (tk = [] ∨ kLt p.1 tk = true) ∧ p.1.length ≤ 1000000000000000000) →
    (a ≠ t.root → 4 ≤ (t.nd a).ps.length) → (a = t.root → d ≠ 0 → 1 ≤ (t.nd a).ps.length) → (∀ x ∈ t.idsN d (t.nd a), x ≠ t.root) → d ≤ 900 →
    Calls Try.prog 38 #[ptrV m.g, .int .i64 (a : Int), .int .i64 ((d : Int) + 1), .string (bs fr), .string (bs tk)] w (RightSaid w) := by
  intro d
  induction d with
  | zero =>
    intro a fr tk w h hn hok hs hb h4 h1 _ _
    have hk := hok
    rw [Tr.ok] at hk
    refine right_step h a hk.1 hn _ fr tk (decide (a = t.root)) rfl ⟨fun _ hn0 => absurd (by rw [hk.2.1]; rfl) hn0, fun hr => h4 (by simpa using hr), hk.2.2, .inl (by rw [hk.2.1]; rfl), fun _ => by simp, fun hn0 => absurd (by rw [hk.2.1]; rfl) hn0, fun i hi h0 => ?_, fun p hp => (hb p hp).1, fun p hp => (hb p hp).2.1,
      fun hn0 => absurd (by rw [hk.2.1]; rfl) hn0, fun p hp => (hb p hp).2.2⟩ (fun i hi => by rw [hk.2.1] at hi; simp at hi)
    exact List.pairwise_iff_getElem.1 (ps_sorted hok hs) (i - 1) i (by omega) hi (by omega)
  | succ d ih =>
    intro a fr tk w h hn hok hs hb h4 h1 hx hd
    have hk := hok
    rw [Tr.ok] at hk
    have hps1 : 1 ≤ (t.nd a).ps.length := by
      by_cases e : a = t.root
      · exact h1 e (by omega)
      · have := h4 e; omega
    refine right_step h a hk.1 hn _ fr tk (decide (a = t.root)) rfl ⟨fun _ _ => hps1, fun hr => h4 (by simpa using hr), hk.2.2.1, .inr hk.2.1, fun h0 => by omega, fun _ => by omega, fun i hi h0 => ?_, fun p hp => (hb p (ps_mem hok hp)).1, fun p hp => (hb p (ps_mem hok hp)).2.1,
      fun _ p hp => ?_, fun p hp => (hb p (ps_mem hok hp)).2.2⟩ (fun i hi W hW => ?_)
    · exact List.pairwise_iff_getElem.1 (ps_sorted hok hs) (i - 1) i (by omega) hi (by omega)
    · obtain ⟨i, hi, rfl⟩ := List.getElem_of_mem hp
      have hik : i < (t.nd a).ks.length := by omega
      have hkd := ok_kid hok i hik
      have hq := kid_between hok hs i hik ((t.nd (t.nd a).ks[i]).ps[0]'(by have := hkd.2; omega)) (ps_mem hkd.1 (List.getElem_mem _))
      have h2 := hq.2.2 hi
      rw [show (t.nd a).ps.getD i pr0 = (t.nd a).ps[i] by simp [List.getD, hi]] at h2
      intro e
      rw [e, kLt_nil] at h2
      cases h2
    · have hkd := ok_kid hok i hi
      have hkm : (t.nd a).ks[i] ∈ (t.nd a).ks := List.getElem_mem hi
      have hsub : ∀ x ∈ t.ids d (t.nd a).ks[i], x ≠ t.root := fun x hx' => hx x (by show x ∈ (t.nd a).ks.flatMap _; exact List.mem_flatMap.2 ⟨_, hkm, hx'⟩)
      have hne : (t.nd a).ks[i] ≠ t.root := hsub _ (ids_self t d _)
      have := ih (t.nd a).ks[i] (kidFrom (t.nd a) fr i) (kidTo (t.nd a) tk i) W (h.grew hW) hn hkd.1 (kid_sorted hok hs i hi) (fun p hp => ?_) (fun _ => hkd.2) (fun e => absurd e hne) (fun x hx' => hsub x (by rw [ids_eq]; exact List.mem_cons_of_mem _ hx')) (by omega)
      · rw [show ((d + 1 : Nat) : Int) + 1 - 1 = (d : Int) + 1 by omega]
        exact this
      · obtain ⟨hm, hlo, hhi⟩ := kid_between hok hs i hi p hp
        obtain ⟨b1, b2, b3⟩ := hb p hm
        refine ⟨?_, ?_, b3⟩
        · unfold kidFrom
          split
          · rename_i h0; exact kLt_zero (hlo h0)
          · exact b1
        · unfold kidTo
          split
          · rename_i h1'; exact .inr (hhi h1')
          · exact b2
set_option maxRecDepth 100000 in
set_option maxHeartbeats 2000000 in
theorem Right_any (h : TreeAt m t w) (hn : t.nodes.length ≤ 1000000) {hi : Nat} (hwf : t.wf d hi) (hd : d ≤ 390) (hl : ∀ p ∈ t.cont d t.root, p.1.length ≤ 1000000000000000000) : Calls Try.prog 23 #[ptrV m.g] w (RightSaid w) := by
  have hD := depth_any h.drew hn d hwf.good.ok (by omega)
  have hR := right_any d t.root [] [] w.drew h.drew hn hwf.good.ok hwf.sorted (fun p hp => ⟨kLt_nil _, .inl rfl, hl p hp⟩) (fun e => absurd rfl e) (fun _ => hwf.top) (fun x hx => (idsN_kids hwf.good x hx).1) (by omega)
  have g2 := h.top.cell (i := 2) rfl
  rw [show ((d + 1 : Nat) : Int) = (d : Int) + 1 by omega] at hD
  have hR : Calls Try.prog 38 #[ptrV m.g, .int .i64 (t.root : Int), .int .i64 ((d : Int) + 1), .string ⟨#[]⟩, .string ⟨#[]⟩] w.drew (RightSaid w.drew) := hR
  unfold ptrV RightSaid at hR
  unfold ptrV at hD
  have HD := Lib.hid hD
  have HR := Lib.hid hR
  clear hD hR h hwf hl
  unfold ptrV
  go_enter Try.func23, Try.ntmps23
  go_upto_region 1 with (fail)
  go_region_with (first | (go_at_call 26; (with_reducible refine HD.out.mono ?_); rintro e w' ⟨rfl, rfl⟩) | (go_at_call 38; (with_reducible refine HR.out.mono ?_); rintro e w' ⟨rfl, hb⟩))
  all_goals
    go_wp2
    go_ret
    exact ⟨rfl, (Below.refl _ w).drew.trans hb⟩
end
end Go.Proofs.Yteoibolompiohaa
