/- The walks of kind, do, done. Conditions: as each theorem says. -/
import Derived.Test.YtnliapdhmjljiaaGenD
namespace Go.Proofs.Ytnliapdhmjljiaa
open Go.RowKit

theorem tmod6 (k : Int) : (k.tmod 6 + 6) % 6 = k % 6 ∧ -6 < k.tmod 6 ∧ k.tmod 6 < 6 := by
  rcases Int.le_total 0 k with h | h
  · rw [Int.tmod_eq_emod_of_nonneg h]; omega
  · obtain ⟨m, rfl⟩ : ∃ m : Int, k = -m := ⟨-k, by omega⟩
    rw [Int.neg_tmod, Int.tmod_eq_emod_of_nonneg (show 0 ≤ m by omega)]; omega
theorem kind_any (k rev : Int) (w : World) : Calls Try.prog 10 #[.agg #[.int .i64 k, .int .i64 rev]] w fun e w' => e = .returned (.int .i64 (k % 6)) ∧ Below w.heap.size w w' := by
  obtain ⟨ht, hb1, hb2⟩ := tmod6 k
  have HT := Lib.hid ht
  clear ht
  go_enter Try.func10, Try.ntmps10
  go_wp2
  go_ret
  exact ⟨by rw [← HT.out]; rfl, alloc_below w _⟩
section
variable {F : Nat → Prop} {kb n : Nat} {s : Ks} {w : World}
theorem after_below {w0 w1 : World} {v : Value} {s' : Ks} {m : Nat} (hb : Below w0.heap.size w0 w1) (hF : ∀ i, F i → i < w0.heap.size) {e : Ending} {w' : World} (h : LiveAfter F kb w1 v s' m e w') : LiveAfter F kb w0 v s' m e w' := by
  obtain ⟨h1, h2, h3⟩ := h
  have hs := hb.size
  have hs2 := h3.size
  refine ⟨h1, h2.wider (fun i hi => ?_) (fun i hi => ?_), (Apart.of_below hb).trans h3 (fun i hi => .inl hi)⟩
  · rcases hi with hi | hi
    · exact .inl hi
    · exact .inr ⟨by omega, hi.2⟩
  · rcases hi with hi | hi
    · have := hF i hi; omega
    · exact hi.2
theorem Live.lt (h : Live F kb s n w) : ∀ i, F i → i < w.heap.size := by
  obtain ⟨⟨u, ps, hk⟩, _, _⟩ := h
  exact hk.lt
theorem comp_after {s' : Ks} {m : Nat} {e : Ending} {w' : World} (h : CompAfter F kb w s' m e w') : LiveAfter F kb w (.bool (decide (s'.gs ≠ []))) s' (m + 1) e w' :=
  ⟨h.1, (h.2.1.more (Nat.le_succ m)).wider (fun _ hi => .inl hi) (fun i hi => by rcases hi with hi | hi; exact h.2.1.lt i hi; exact hi.2), h.2.2⟩
def doV (s : Ks) (o : Int × Int) : Value := .tuple #[.int .i64 (stepK s o).2.1, .bool (stepK s o).2.2]
set_option maxRecDepth 100000 in
set_option maxHeartbeats 1000000 in
theorem do_any (h : Live F kb s n w) (hn : n ≤ 1000) (o : Int × Int) : Calls Try.prog 14 #[.pointer (some ⟨kb, 0, none⟩), .agg #[.int .i64 o.1, .int .i64 o.2]] w (LiveAfter F kb w (doV s o) (stepK s o).1 (n + 1)) := by
  obtain ⟨k, rev⟩ := o
  have hlt := h.lt
  have HK := Lib.hid (fun W => kind_any k rev W)
  have HL := Lib.hid h
  have HF := Lib.hid hlt
  have hk6 : 0 ≤ k % 6 ∧ k % 6 < 6 := by omega
  clear h hlt
  rcases (show k % 6 = 3 ∨ k % 6 = 4 ∨ k % 6 = 5 ∨ (k % 6 ≠ 3 ∧ k % 6 ≠ 4 ∧ k % 6 ≠ 5) by omega) with h3 | h3 | h3 | ⟨h3, h4, h5⟩
  · have hs : stepK s (k, rev) = ((tombK s rev).1, (tombK s rev).2, false) := by unfold stepK; rw [if_pos (.inl h3)]
    unfold doV
    rw [hs]
    simp only
    have HP := Lib.hid (fun W (hb : Below w.heap.size w W) => tomb_live (HL.out.grew hb) hn rev)
    clear hs
    rw [h3] at HK
    clear hk6 h3
    go_enter Try.func14, Try.ntmps14
    go_wp2_with (
      first
      | (go_at_call 10; (with_reducible refine (HK.out _).mono ?_); rintro e w1 ⟨rfl, hb1⟩; have hbw := Below.trans (alloc_below w (.cells #[.int .i64 k, .int .i64 rev] 29)) (hb1.mono (by simp)); have HBw := Lib.hid hbw; have hc := Grew.cell hb1 (BlkAt.cell (BlkAt.alloc_new w [.int .i64 k, .int .i64 rev] 29) (i := 1) rfl); clear hb1 hbw)
      | (go_at_call 24; refine (HP.out _ HBw.out).mono ?_; rintro e w2 ⟨rfl, hl2, ha2⟩; have HA := Lib.hid (after_below (e := .returned undef) (v := undef) (w' := w2) HBw.out HF.out ⟨rfl, hl2, ha2⟩); clear hl2 ha2))
    go_ret2
    exact ⟨rfl, HA.out.2.1, HA.out.2.2⟩
  · have hs : stepK s (k, rev) = ((tombK s rev).1, (tombK s rev).2, false) := by unfold stepK; rw [if_pos (.inr h3)]
    unfold doV
    rw [hs]
    simp only
    have HP := Lib.hid (fun W (hb : Below w.heap.size w W) => tomb_live (HL.out.grew hb) hn rev)
    clear hs
    rw [h3] at HK
    clear hk6 h3
    go_enter Try.func14, Try.ntmps14
    go_wp2_with (
      first
      | (go_at_call 10; (with_reducible refine (HK.out _).mono ?_); rintro e w1 ⟨rfl, hb1⟩; have hbw := Below.trans (alloc_below w (.cells #[.int .i64 k, .int .i64 rev] 29)) (hb1.mono (by simp)); have HBw := Lib.hid hbw; have hc := Grew.cell hb1 (BlkAt.cell (BlkAt.alloc_new w [.int .i64 k, .int .i64 rev] 29) (i := 1) rfl); clear hb1 hbw)
      | (go_at_call 24; refine (HP.out _ HBw.out).mono ?_; rintro e w2 ⟨rfl, hl2, ha2⟩; have HA := Lib.hid (after_below (e := .returned undef) (v := undef) (w' := w2) HBw.out HF.out ⟨rfl, hl2, ha2⟩); clear hl2 ha2))
    go_ret2
    exact ⟨rfl, HA.out.2.1, HA.out.2.2⟩
  · have hs : stepK s (k, rev) = (compK s rev, 0, decide ((compK s rev).gs ≠ [])) := by unfold stepK; rw [if_neg (by simp only; omega), if_pos h3]
    unfold doV
    rw [hs]
    simp only
    obtain ⟨lb, hlb⟩ : ∃ lb, lb = decide ((compK s rev).gs ≠ []) := ⟨_, rfl⟩
    have hp : ∀ W (_ : Below w.heap.size w W), Calls Try.prog 23 #[.pointer (some ⟨kb, 0, none⟩), .int .i64 rev] W (LiveAfter F kb W (.bool lb) (compK s rev) (n + 1)) := fun W hb => by
      rw [hlb]
      exact (comp_live (HL.out.grew hb) hn rev).mono (fun e w' h => comp_after h)
    have HP := Lib.hid hp
    rw [← hlb]
    clear hs hlb hp
    rw [h3] at HK
    clear hk6 h3
    go_enter Try.func14, Try.ntmps14
    go_wp2_with (
      first
      | (go_at_call 10; (with_reducible refine (HK.out _).mono ?_); rintro e w1 ⟨rfl, hb1⟩; have hbw := Below.trans (alloc_below w (.cells #[.int .i64 k, .int .i64 rev] 29)) (hb1.mono (by simp)); have HBw := Lib.hid hbw; have hc := Grew.cell hb1 (BlkAt.cell (BlkAt.alloc_new w [.int .i64 k, .int .i64 rev] 29) (i := 1) rfl); clear hb1 hbw)
      | (go_at_call 23; refine (HP.out _ HBw.out).mono ?_; rintro e w2 ⟨rfl, hl2, ha2⟩; have HA := Lib.hid (after_below (e := .returned undef) (v := undef) (w' := w2) HBw.out HF.out ⟨rfl, hl2, ha2⟩); clear hl2 ha2))
    go_ret2
    exact ⟨rfl, HA.out.2.1, HA.out.2.2⟩
  · have hs : stepK s (k, rev) = ((putK s rev).1, (putK s rev).2, false) := by unfold stepK; rw [if_neg (by simp only; omega), if_neg h5]
    unfold doV
    rw [hs]
    simp only
    have HP := Lib.hid (fun W (hb : Below w.heap.size w W) => put_live (HL.out.grew hb) hn rev)
    clear hs
    have q3 : (k % 6 == 3) = false := beq_eq_false_iff_ne.2 h3
    have q4 : (k % 6 == 4) = false := beq_eq_false_iff_ne.2 h4
    have q5 : (k % 6 == 5) = false := beq_eq_false_iff_ne.2 h5
    clear hk6 h3 h4 h5
    generalize k % 6 = kk at *
    go_enter Try.func14, Try.ntmps14
    go_wp2_with (
      first
      | (go_at_call 10; (with_reducible refine (HK.out _).mono ?_); rintro e w1 ⟨rfl, hb1⟩; have hbw := Below.trans (alloc_below w (.cells #[.int .i64 k, .int .i64 rev] 29)) (hb1.mono (by simp)); have HBw := Lib.hid hbw; have hc := Grew.cell hb1 (BlkAt.cell (BlkAt.alloc_new w [.int .i64 k, .int .i64 rev] 29) (i := 1) rfl); clear hb1 hbw)
      | (go_at_call 25; refine (HP.out _ HBw.out).mono ?_; rintro e w2 ⟨rfl, hl2, ha2⟩; have HA := Lib.hid (after_below (e := .returned undef) (v := undef) (w' := w2) HBw.out HF.out ⟨rfl, hl2, ha2⟩); clear hl2 ha2))
    go_ret2
    exact ⟨rfl, HA.out.2.1, HA.out.2.2⟩
end
end Go.Proofs.Ytnliapdhmjljiaa
