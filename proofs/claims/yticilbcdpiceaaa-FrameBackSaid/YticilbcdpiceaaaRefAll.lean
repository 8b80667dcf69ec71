/- The walk of the reference's All. Conditions: texts of at most 2 to the 40 bytes. -/
import Derived.Test.YticilbcdpiceaaaAll
namespace Go.Proofs.Yticilbcdpiceaaa
open Go.RowKit

set_option maxRecDepth 100000 in
set_option maxHeartbeats 800000 in
theorem refall_any (s : ByteArray) (hs : s.size ≤ 1099511627776) (w : World) : Calls Try.prog 28 #[.string s] w (AllSaid s w) := by
  obtain ⟨i9, hi, hz0, hz1, hz2⟩ := info_parts info9
  go_enter Try.func28, Try.ntmps28
  go_wp2
  go_loopw [5, 6] (fun v r wr => ∃ (D : List (List UInt8)) (p : Nat), r = .int .i64 p ∧ Inv s.data.toList D p ∧ wr.ownsRow w.heap.size 9 1 v D.length (D.map str) ∧ Below w.heap.size w wr)
    (fun _ r _ => s.size - (intOf r).toNat)
  case atStart => exact ⟨[], 0, rfl, Inv.start _, World.ownsRow_nil _ _ _ _, Below.refl _ _⟩
  case round =>
    obtain ⟨D, p, rfl, hinv, hown, hb⟩ := hrel
    have hpl : p ≤ s.size := hinv.1
    have hD := hinv.2.1
    by_cases hne : p < s.size
    · as_aux_lemma =>
      have hne' : s.data.toList.drop p ≠ [] := by
        intro h
        have h2 := congrArg List.length h
        have hsl : s.data.toList.length = s.size := rfl
        simp only [List.length_drop, hsl, List.length_nil] at h2
        omega
      have hsum := refnext_any (s.extract p s.size) (by unfold maxLen; simp; omega)
      have Hext := Lib.hid (show (s.extract p s.size).data.toList = s.data.toList.drop p by rw [Lib.extract_data, List.take_of_length_le (by simp)])
      have Hinv := Lib.hid hinv
      clear hinv
      go_wp2_with fail
      refine (hsum _).mono ?_
      rintro e w1 hN
      obtain ⟨rfl, hb1⟩ := hN
      rw [Hext.out]
      by_cases h0 : nErr (s.data.toList.drop p) = 0
      · have hst := Lib.hid (Hinv.out.step hne' h0)
        obtain ⟨hu1, hu2, hu3⟩ := used_bound _ h0
        simp only [List.length_drop] at hu3
        have hsl : s.data.toList.length = s.size := rfl
        rw [hsl] at hu3
        have hown1 := own_below hown hb1
        have hul : p + nUsed (s.data.toList.drop p) ≤ s.size := by omega
        have hup : 0 < nUsed (s.data.toList.drop p) := by omega
        rw [h0]
        clear hown hu1 hu2 hu3 h0
        generalize nUsed (s.data.toList.drop p) = u at *
        generalize nBody (s.data.toList.drop p) = b at *
        go_wp2_with (at_builtin; refine wpList_append_own _ rfl _ _ 42 rfl w.heap.size 9 i9 (.string ⟨#[]⟩) 1 16 Try.underlying42 hi hz0 hz1 hz2 rfl (by decide) _ _ _ rfl (hown1.alloc _) ⟨w1.heap.size, 0, none⟩ 1 1 [str b] rfl rfl (new_cells w1 _ 9) (by intro x hx; simp at hx; subst hx; rfl) (by unfold maxLen; omega) (by omega) (by have := hb.size; have := hb1.size; simp; omega) ?_)
        intro v' w2 hown2 hgr2 _
        have hb2 := ((hb.trans (hb1.mono hb.size)).alloc (Nat.le_trans hb.size hb1.size) (.cells #[str b] 9)).grown hgr2 (by have := hb.size; have := hb1.size; simp; omega) (own_base hown1)
        have hown3 : w2.ownsRow w.heap.size 9 1 v' (D ++ [b]).length ((D ++ [b]).map str) := by simpa using hown2
        clear hgr2 hown1 hown2
        go_wp2
        go_roundw
        case rel => exact ⟨D ++ [b], p + u, by go_num, hst.out, hown3, hb2⟩
        case measure => simp [intOf]; omega
      · have hw := Lib.hid (Hinv.out.wrong hne' h0)
        have hnz : (((nErr (s.data.toList.drop p) : Nat) : Int) == 0) = false := beq_eq_false_iff_ne.2 (by omega)
        have hnz2 : (((nErr (s.data.toList.drop p) : Nat) : Int) != 0) = true := by rw [bne_iff_ne]; omega
        generalize nErr (s.data.toList.drop p) = c at *
        have hown1 := own_below hown hb1
        clear hown
        go_wp2
        go_ret3
        exact allSaid s w _ _ _ D p c _ _ rfl rfl rfl (hb.trans (hb1.mono hb.size)) hown1 hw.out
    · as_aux_lemma =>
      have hd0 : s.data.toList.drop p = [] := List.drop_eq_nil_of_le (by show s.size ≤ p; omega)
      have hdn := Lib.hid (hinv.done hd0)
      have hp := Lib.hid (show p = s.size by omega)
      clear hinv
      go_wp2
      go_ret3
      exact allSaid s w _ _ _ D _ _ _ _ (by rw [hp.out]; rfl) rfl rfl hb hown hdn.out.2
end Go.Proofs.Yticilbcdpiceaaa
