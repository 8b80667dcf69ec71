/- The law ValueAsks. Conditions: as each theorem says. -/
import Derived.Test.YtlbacddgjagcbaaValW
import Derived.Test.YtlbacddgjagcbaaValP
namespace Go.Proofs.Ytlbacddgjagcbaa
open Go.RowKit

/-- What Of answers, told by what ValueAsks asks of it. -/
theorem of_kinds (m : Msg) (w : World) (v : Value) (h : MvAt w (ofM m) v) :
    (m.ty = 1 ∧ v = .iface 65 (voteV m.ld m.a m.ep m.rnd m.st)) ∨ (m.ty ≠ 1 ∧ m.ty ≠ 4 ∧ ∃ T u, v = .iface T u ∧ T ≠ 65 ∧ T ≠ 101) ∨
    (m.ty = 4 ∧ ∃ x, m.ents = [x] ∧ v = .iface 101 (entV x)) ∨ (m.ty ≠ 1 ∧ v = .nilIface) := by
  unfold ofM at h
  by_cases h1 : m.ty = 1
  · rw [if_pos h1] at h
    exact .inl ⟨h1, h⟩
  rw [if_neg h1] at h
  by_cases h2 : m.ty = 2
  · rw [if_pos h2] at h
    exact .inr (.inl ⟨h1, by omega, _, _, h, by decide, by decide⟩)
  rw [if_neg h2] at h
  by_cases h3 : m.ty = 3
  · rw [if_pos h3] at h
    obtain ⟨a, cap, h, _⟩ := h
    exact .inr (.inl ⟨h1, by omega, _, _, h, by decide, by decide⟩)
  rw [if_neg h3] at h
  by_cases h4 : m.ty = 4
  · rw [if_pos h4] at h
    match he : m.ents, h with
    | [x], h => exact .inr (.inr (.inl ⟨h4, x, rfl, h⟩))
    | [], h => exact .inr (.inr (.inr ⟨h1, h⟩))
    | _ :: _ :: _, h => exact .inr (.inr (.inr ⟨h1, h⟩))
  rw [if_neg h4] at h
  by_cases h5 : m.ty = 5
  · rw [if_pos h5] at h
    exact .inr (.inl ⟨h1, by omega, _, _, h, by decide, by decide⟩)
  rw [if_neg h5] at h
  by_cases h6 : m.ty = 6
  · rw [if_pos h6] at h
    exact .inr (.inl ⟨h1, by omega, _, _, h, by decide, by decide⟩)
  rw [if_neg h6] at h
  exact .inr (.inr (.inr ⟨h1, h⟩))
set_option maxRecDepth 100000 in
set_option maxHeartbeats 16000000 in
/-- THE LAW. -/
theorem valueAsks_walk (w : World) (v0 : Value) (h0 : IsMsg w v0) :
    Calls Try.prog 13 #[v0] w fun e w' => e = .returned (.bool true) ∧ Below w.heap.size w w' := by
  obtain ⟨m, a, cap, rfl, hE, hm⟩ := h0
  have HF : Hid (∀ X, EntsIn X a cap m.ents → Calls Try.prog 34 #[msgV m a cap] X fun e w' => e = .returned (.bool (fewM m)) ∧ Below X.heap.size X w') := fun X hX => fewM_any m a cap X hX hm
  have HO : Hid (∀ X, fewM m = true → EntsIn X a cap m.ents → Calls Try.prog 36 #[msgV m a cap] X fun e w' => OfSaid m X e w') := fun X hf hX => of_any m a cap X hX hm hf
  have HK := Lib.hid (fun X v h => of_kinds m X v h)
  have HW := Lib.hid (fun X => wake_any X)
  have hbo := Nat.le_trans hE.1 hE.2.1
  unfold maxLen at hbo
  obtain ⟨ty, ld, ⟨z1, z2⟩, ep, own, ⟨f1, f2⟩, rnd, st, kd, body, ents, flag, node, cli, seq⟩ := m
  simp only at hE hbo
  unfold msgV msgCells at HF HO ⊢
  simp only at HF HO ⊢
  obtain ⟨W, hW⟩ : ∃ X, X = w.alloc (.cells #[.int .i64 ty, .int .i64 ld, .int .i64 z1, .int .i64 z2, .int .i64 ep, .int .i64 own, .int .i64 f1, .int .i64 f2, .int .i64 rnd, .int .i64 st, .int .i64 kd, .string (bs body), .slice a ents.length cap, .bool flag, .int .i64 node, .int .i64 cli, .int .i64 seq] 51) := ⟨_, rfl⟩
  have hk : W.heap[w.heap.size]? = some (.cells #[.int .i64 ty, .int .i64 ld, .int .i64 z1, .int .i64 z2, .int .i64 ep, .int .i64 own, .int .i64 f1, .int .i64 f2, .int .i64 rnd, .int .i64 st, .int .i64 kd, .string (bs body), .slice a ents.length cap, .bool flag, .int .i64 node, .int .i64 cli, .int .i64 seq] 51 (0, 0)) := by rw [hW]; exact heap_alloc_new w _
  have hB : Below w.heap.size w W := by rw [hW]; exact alloc_below w _
  have HE := Lib.hid (fun X (hX : Below W.heap.size W X) => (hE.grew hB).grew hX)
  have HK0 := Lib.hid (fun X (hX : Below W.heap.size W X) => Grew.at_ hX hk)
  have HWe := Lib.hid hW
  clear hW hk hE hm
  go_enter Try.func13, Try.ntmps13
  go_upto_region 1 with (fail)
  rw [← HWe.out]
  clear HWe
  have HB : Hid (∀ X, Below W.heap.size W X → Below w.heap.size w X) := fun X hX => hB.trans (hX.mono hB.size)
  generalize hg : w.heap.size = g at *
  have HG := Lib.hid hg
  clear hg
  have HKW := Lib.hid (HK0.out W (Below.refl _ _))
  have m0 : W.cell? ⟨g, 0, none⟩ = some (.int .i64 ty) := by rw [Lib.cell_of_heap HKW.out]; rfl
  have m1 : W.cell? ⟨g, 1, none⟩ = some (.int .i64 ld) := by rw [Lib.cell_of_heap HKW.out]; rfl
  have m2 : W.cell? ⟨g, 2, none⟩ = some (.int .i64 z1) := by rw [Lib.cell_of_heap HKW.out]; rfl
  have m3 : W.cell? ⟨g, 3, none⟩ = some (.int .i64 z2) := by rw [Lib.cell_of_heap HKW.out]; rfl
  have m4 : W.cell? ⟨g, 4, none⟩ = some (.int .i64 ep) := by rw [Lib.cell_of_heap HKW.out]; rfl
  have m5 : W.cell? ⟨g, 5, none⟩ = some (.int .i64 own) := by rw [Lib.cell_of_heap HKW.out]; rfl
  have m6 : W.cell? ⟨g, 6, none⟩ = some (.int .i64 f1) := by rw [Lib.cell_of_heap HKW.out]; rfl
  have m7 : W.cell? ⟨g, 7, none⟩ = some (.int .i64 f2) := by rw [Lib.cell_of_heap HKW.out]; rfl
  have m8 : W.cell? ⟨g, 8, none⟩ = some (.int .i64 rnd) := by rw [Lib.cell_of_heap HKW.out]; rfl
  have m9 : W.cell? ⟨g, 9, none⟩ = some (.int .i64 st) := by rw [Lib.cell_of_heap HKW.out]; rfl
  have m10 : W.cell? ⟨g, 10, none⟩ = some (.int .i64 kd) := by rw [Lib.cell_of_heap HKW.out]; rfl
  have m11 : W.cell? ⟨g, 11, none⟩ = some (.string (bs body)) := by rw [Lib.cell_of_heap HKW.out]; rfl
  have m12 : W.cell? ⟨g, 12, none⟩ = some (.slice a ents.length cap) := by rw [Lib.cell_of_heap HKW.out]; rfl
  have m13 : W.cell? ⟨g, 13, none⟩ = some (.bool flag) := by rw [Lib.cell_of_heap HKW.out]; rfl
  have m14 : W.cell? ⟨g, 14, none⟩ = some (.int .i64 node) := by rw [Lib.cell_of_heap HKW.out]; rfl
  have m15 : W.cell? ⟨g, 15, none⟩ = some (.int .i64 cli) := by rw [Lib.cell_of_heap HKW.out]; rfl
  have m16 : W.cell? ⟨g, 16, none⟩ = some (.int .i64 seq) := by rw [Lib.cell_of_heap HKW.out]; rfl
  go_wp2_with (fail)
  refine (HF.out _ (HE.out _ (Below.refl _ _))).mono ?_
  rintro e w1 ⟨rfl, hb1⟩
  clear HF m0 m1 m2 m3 m4 m5 m6 m7 m8 m9 m10 m11 m12 m13 m14 m15 m16
  by_cases hf : fewM ⟨ty, ld, (z1, z2), ep, own, (f1, f2), rnd, st, kd, body, ents, flag, node, cli, seq⟩ = true
  · rw [hf]
    have HK1 := Lib.hid (HK0.out _ hb1)
    have m0 : w1.cell? ⟨g, 0, none⟩ = some (.int .i64 ty) := by rw [Lib.cell_of_heap HK1.out]; rfl
    have m1 : w1.cell? ⟨g, 1, none⟩ = some (.int .i64 ld) := by rw [Lib.cell_of_heap HK1.out]; rfl
    have m2 : w1.cell? ⟨g, 2, none⟩ = some (.int .i64 z1) := by rw [Lib.cell_of_heap HK1.out]; rfl
    have m3 : w1.cell? ⟨g, 3, none⟩ = some (.int .i64 z2) := by rw [Lib.cell_of_heap HK1.out]; rfl
    have m4 : w1.cell? ⟨g, 4, none⟩ = some (.int .i64 ep) := by rw [Lib.cell_of_heap HK1.out]; rfl
    have m5 : w1.cell? ⟨g, 5, none⟩ = some (.int .i64 own) := by rw [Lib.cell_of_heap HK1.out]; rfl
    have m6 : w1.cell? ⟨g, 6, none⟩ = some (.int .i64 f1) := by rw [Lib.cell_of_heap HK1.out]; rfl
    have m7 : w1.cell? ⟨g, 7, none⟩ = some (.int .i64 f2) := by rw [Lib.cell_of_heap HK1.out]; rfl
    have m8 : w1.cell? ⟨g, 8, none⟩ = some (.int .i64 rnd) := by rw [Lib.cell_of_heap HK1.out]; rfl
    have m9 : w1.cell? ⟨g, 9, none⟩ = some (.int .i64 st) := by rw [Lib.cell_of_heap HK1.out]; rfl
    have m10 : w1.cell? ⟨g, 10, none⟩ = some (.int .i64 kd) := by rw [Lib.cell_of_heap HK1.out]; rfl
    have m11 : w1.cell? ⟨g, 11, none⟩ = some (.string (bs body)) := by rw [Lib.cell_of_heap HK1.out]; rfl
    have m12 : w1.cell? ⟨g, 12, none⟩ = some (.slice a ents.length cap) := by rw [Lib.cell_of_heap HK1.out]; rfl
    have m13 : w1.cell? ⟨g, 13, none⟩ = some (.bool flag) := by rw [Lib.cell_of_heap HK1.out]; rfl
    have m14 : w1.cell? ⟨g, 14, none⟩ = some (.int .i64 node) := by rw [Lib.cell_of_heap HK1.out]; rfl
    have m15 : w1.cell? ⟨g, 15, none⟩ = some (.int .i64 cli) := by rw [Lib.cell_of_heap HK1.out]; rfl
    have m16 : w1.cell? ⟨g, 16, none⟩ = some (.int .i64 seq) := by rw [Lib.cell_of_heap HK1.out]; rfl
    go_wp2_with (fail)
    refine (HO.out _ hf (HE.out _ hb1)).mono ?_
    rintro e w2 ⟨v, rfl, hv, hb2⟩
    have hk := HK.out _ _ hv
    have Hb2 := Lib.hid (hb1.trans (hb2.mono hb1.size))
    clear HO hf hv HK HK1 hb1 hb2 m0 m1 m2 m3 m4 m5 m6 m7 m8 m9 m10 m11 m12 m13 m14 m15 m16
    have HK2 := Lib.hid (HK0.out _ Hb2.out)
    have m0 : w2.cell? ⟨g, 0, none⟩ = some (.int .i64 ty) := by rw [Lib.cell_of_heap HK2.out]; rfl
    rcases hk with ⟨h1, rfl⟩ | ⟨h1, h4, T, u, rfl, hT1, hT2⟩ | ⟨h4, x, hx, rfl⟩ | ⟨h1, rfl⟩
    · as_aux_lemma =>
      subst h1
      have M0 := Lib.hid m0
      have HI := Lib.hid (fun X => isVote_yes ld (z1, z2) ep rnd st X)
      have HP := Lib.hid (fun X => panics_yes (.iface 65 (voteV ld (z1, z2) ep rnd st)) X (fun Y => must_no 65 _ (by decide) Y))
      have HL := Lib.hid (fun X => plain_vote ld (z1, z2) ep rnd st X)
      have HS := Lib.hid (fun X => same_yes (plM (.vote ld (z1, z2) ep rnd st)) none none 0 0 X (ents_none X) (ents_none X))
      unfold PlainNil at HL
      unfold voteV at HI HP HL ⊢
      simp only [plM, msgV, msgCells, List.length_nil] at HI HP HL HS ⊢
      go_wp2_with (fail)
      refine (HI.out _).mono ?_
      rintro e w3 ⟨rfl, hb3⟩
      have m0 := Grew.cell hb3 m0
      have m0' : ∀ o, (w3.alloc o).cell? ⟨g, 0, none⟩ = some (.int .i64 1) := fun o => Grew.cell (alloc_below w3 o) m0
      go_wp2_with (fail)
      refine (HL.out _).mono ?_
      rintro e w4 ⟨rfl, hb4⟩
      go_wp2_with (fail)
      refine (HL.out _).mono ?_
      rintro e w5 ⟨rfl, hb5⟩
      go_wp2_with (fail)
      refine (HS.out _).mono ?_
      rintro e w6 ⟨rfl, hb6⟩
      have hb36 := (hb3.alloc hb3.size (.cells #[.int .i64 ld, .int .i64 z1, .int .i64 z2, .int .i64 ep, .int .i64 rnd, .int .i64 st] 65)).trans ((hb4.trans ((hb5.trans (hb6.mono hb5.size)).mono hb4.size)).mono (by have := hb3.size; simp; omega))
      have m0 := Grew.cell hb36 (show w2.cell? ⟨g, 0, none⟩ = some (.int .i64 1) from M0.out)
      go_wp2_with (fail)
      refine (HP.out _).mono ?_
      rintro e w7 ⟨rfl, hb7⟩
      go_wp2_with (fail)
      refine (HW.out _).mono ?_
      rintro e w8 ⟨rfl, hb8⟩
      go_wp2
      go_ret
      exact ⟨rfl, by rw [HG.out]; exact HB.out _ (Hb2.out.trans ((hb36.trans ((hb7.trans (hb8.mono hb7.size)).mono hb36.size)).mono Hb2.out.size))⟩
    · as_aux_lemma =>
      have t1 : (ty == 1) = false := beq_eq_false_iff_ne.2 h1
      have t4 : (ty == 4) = false := beq_eq_false_iff_ne.2 h4
      have HI := Lib.hid (fun X => isVote_no T hT1 u X)
      have HP := Lib.hid (fun X => panics_yes (.iface T u) X (fun Y => must_no T u hT2 Y))
      unfold NoVoteSaid voteV at HI
      go_wp2_with (fail)
      refine (HI.out _).mono ?_
      rintro e w3 ⟨rfl, hb3⟩
      have m0 := Grew.cell hb3 m0
      have m0' : ∀ o, (w3.alloc o).cell? ⟨g, 0, none⟩ = some (.int .i64 ty) := fun o => Grew.cell (alloc_below w3 o) m0
      go_wp2_with (fail)
      refine (HP.out _).mono ?_
      rintro e w4 ⟨rfl, hb4⟩
      go_wp2_with (fail)
      refine (HW.out _).mono ?_
      rintro e w5 ⟨rfl, hb5⟩
      go_wp2
      go_ret
      exact ⟨rfl, by rw [HG.out]; exact HB.out _ (Hb2.out.trans (((hb3.alloc hb3.size _).trans ((hb4.trans (hb5.mono hb4.size)).mono (by have := hb3.size; simp; omega))).mono Hb2.out.size))⟩
    · as_aux_lemma =>
      subst hx h4
      have t1 : ((4 : Int) == 1) = false := by decide
      have HI := Lib.hid (fun X => isVote_no 101 (by decide) (entV x) X)
      have HMu := Lib.hid (fun X => must_yes x X)
      have HP := Lib.hid (fun X => panics_no x X)
      have HL := Lib.hid (fun X => plain_at x.e x.c X)
      unfold NoVoteSaid voteV at HI
      unfold entV at HI HMu HP ⊢
      obtain ⟨bb, off, rfl, e0, e1, e2⟩ := ents_get (HE.out _ Hb2.out).2.2.1 0 (by simp)
      have hlc : 1 ≤ cap := (HE.out _ Hb2.out).1
      have m12 : w2.cell? ⟨g, 12, none⟩ = some (.slice (some ⟨bb, off, none⟩) 1 cap) := by rw [Lib.cell_of_heap HK2.out]; rfl
      simp only [Nat.zero_mul, Nat.add_zero, List.getElem_cons_zero] at e0 e1 e2
      have M0 := Lib.hid m0
      simp only [List.length_cons, List.length_nil, Nat.zero_add] at *
      clear HK2 HE HK0
      go_wp2_with (fail)
      refine (HI.out _).mono ?_
      rintro e w3 ⟨rfl, hb3⟩
      have m0' : ∀ o, (w3.alloc o).cell? ⟨g, 0, none⟩ = some (.int .i64 4) := fun o => Grew.cell (alloc_below w3 o) (Grew.cell hb3 m0)
      go_wp2_with (fail)
      refine (HMu.out _).mono ?_
      rintro e w4 ⟨rfl, hb4⟩
      obtain ⟨W5, hW5⟩ : ∃ X, X = w4.alloc (.cells #[.int .i64 x.e, .int .i64 x.c, .string (bs x.b)] 69) := ⟨_, rfl⟩
      have hb5 : Below w4.heap.size w4 W5 := by rw [hW5]; exact alloc_below _ _
      have hk5 : W5.heap[w4.heap.size]? = some (.cells #[.int .i64 x.e, .int .i64 x.c, .string (bs x.b)] 69 (0, 0)) := by rw [hW5]; exact heap_alloc_new _ _
      have hb25 := (hb3.alloc hb3.size (.cells #[.int .i64 0, .int .i64 0, .int .i64 0, .int .i64 0, .int .i64 0, .int .i64 0] 65)).trans ((hb4.trans (hb5.mono hb4.size)).mono (by have := hb3.size; simp; omega))
      have e0 := Grew.cell hb25 e0
      have e1 := Grew.cell hb25 e1
      have e2 := Grew.cell hb25 e2
      have m12 := Grew.cell hb25 m12
      have HW5 := Lib.hid hW5
      have Hb25 := Lib.hid hb25
      clear hW5 hb5 hb25 hb3 hb4 m0 m0'
      go_upto_region 9 with (fail)
      rw [← HW5.out]
      clear HW5
      generalize w4.heap.size = k at *
      have y0 : W5.cell? ⟨k, 0, none⟩ = some (.int .i64 x.e) := by rw [Lib.cell_of_heap hk5]; rfl
      have y1 : W5.cell? ⟨k, 1, none⟩ = some (.int .i64 x.c) := by rw [Lib.cell_of_heap hk5]; rfl
      have y2 : W5.cell? ⟨k, 2, none⟩ = some (.string (bs x.b)) := by rw [Lib.cell_of_heap hk5]; rfl
      clear hk5
      have s1 : (x.e == x.e) = true := beq_self_eq_true _
      have s2 : (x.c == x.c) = true := beq_self_eq_true _
      have s3 : ((bs x.b).toList == (bs x.b).toList) = true := beq_self_eq_true _
      have hex := Grew.all W5
      refine wp_region_grew (by kernel_rfl) (by kernel_rfl) ?_
      repeat (first | go_big_quiet_skip | (go_big_quiet_want; first | (refine quiet_load_mid 59 _ rfl _ _ rfl [.int .i64 x.e, .int .i64 x.c] _ (fun W hW => range2 (Grew.cell hW y0) (Grew.cell hW y1)) Try.underlying59 rfl (by kernel_rfl) ?_; simp only [Act.put, List.setIfInBounds_toArray, List.set_cons_succ, List.set_cons_zero]; go_big_quiet_on) | (refine quiet_load_mid 48 _ rfl _ _ rfl [.int .i64 x.e, .int .i64 x.c] _ (fun W hW => range2 (Grew.cell hW e0) (Grew.cell hW e1)) Try.underlying48 rfl (by kernel_rfl) ?_; simp only [Act.put, List.setIfInBounds_toArray, List.set_cons_succ, List.set_cons_zero]; go_big_quiet_on) | (refine quiet_load_cell _ _ rfl ⟨g, 12, none⟩ rfl _ _ Try.underlying49 rfl (fun W hW => Grew.cell hW m12) ?_; simp only [Act.put, List.setIfInBounds_toArray, List.set_cons_succ, List.set_cons_zero]; go_big_quiet_on) | (refine quiet_load_cell _ _ rfl ⟨k, 2, none⟩ rfl _ _ Try.underlying9 rfl (fun W hW => Grew.cell hW y2) ?_; simp only [Act.put, List.setIfInBounds_toArray, List.set_cons_succ, List.set_cons_zero]; go_big_quiet_on) | (refine quiet_load_cell _ _ rfl ⟨bb, off + 2, none⟩ rfl _ _ Try.underlying9 rfl (fun W hW => Grew.cell hW e2) ?_; simp only [Act.put, List.setIfInBounds_toArray, List.set_cons_succ, List.set_cons_zero]; go_big_quiet_on) | (go_big_quiet_op; first | go_big_quiet_on | (apply Exists.intro; refine ⟨fun W hW => ?_, ?_⟩; (first | exact rfl | (go_at_call 43; with_reducible exact Calls.grew hW (HL.out _)) | (go_at_call 46; with_reducible exact Calls.grew hW (HP.out _)) | (go_at_call 35; with_reducible exact Calls.grew hW (HW.out _))); go_big_quiet_on))))
      refine wpQuiet_nil ?_
      intro w9 hw9
      have hB9 : Below w2.heap.size w2 w9 := Hb25.out.trans (Below.mono (show Below W5.heap.size W5 w9 from hw9) Hb25.out.size)
      clear hex
      go_wp2
      go_ret
      exact ⟨rfl, by rw [HG.out]; exact HB.out _ (Hb2.out.trans (hB9.mono Hb2.out.size))⟩
    · as_aux_lemma =>
      have t1 : (ty == 1) = false := beq_eq_false_iff_ne.2 h1
      have h4 : (ty == 4) = true ∨ (ty == 4) = false := by cases (ty == 4) <;> simp
      have HI := Lib.hid (fun X => isVote_nil X)
      have HP := Lib.hid (fun X => panics_yes .nilIface X (fun Y => must_nil Y))
      unfold NoVoteSaid voteV at HI
      rcases h4 with t4 | t4
      all_goals
        go_wp2_with (fail)
        refine (HI.out _).mono ?_
        rintro e w3 ⟨rfl, hb3⟩
        have m0 := Grew.cell hb3 m0
        have m0' : ∀ o, (w3.alloc o).cell? ⟨g, 0, none⟩ = some (.int .i64 ty) := fun o => Grew.cell (alloc_below w3 o) m0
        go_wp2_with (fail)
        refine (HP.out _).mono ?_
        rintro e w4 ⟨rfl, hb4⟩
        go_wp2_with (fail)
        refine (HW.out _).mono ?_
        rintro e w5 ⟨rfl, hb5⟩
        go_wp2
        go_ret
        exact ⟨rfl, by rw [HG.out]; exact HB.out _ (Hb2.out.trans (((hb3.alloc hb3.size _).trans ((hb4.trans (hb5.mono hb4.size)).mono (by have := hb3.size; simp; omega))).mono Hb2.out.size))⟩
  · as_aux_lemma =>
    rw [Bool.eq_false_iff.2 hf]
    clear HK0 HO HE HK hf
    go_wp2_with (fail)
    refine (HW.out _).mono ?_
    rintro e w2 ⟨rfl, hb2⟩
    go_wp2
    go_ret
    exact ⟨rfl, by rw [HG.out]; exact HB.out _ (hb1.trans (hb2.mono hb1.size))⟩
end Go.Proofs.Ytlbacddgjagcbaa
