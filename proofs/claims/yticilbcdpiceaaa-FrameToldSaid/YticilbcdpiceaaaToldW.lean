/- The walk of the law FrameTold, for every input. Conditions: none. -/
import Derived.Test.YticilbcdpiceaaaToldP
namespace Go.Proofs.Yticilbcdpiceaaa
open Go.RowKit

/-- '[]byte(s)', one byte turned, and back. -/
theorem conv_turn (w : World) (s : ByteArray) (i t : Nat) (hi : i < s.size) (ht : t < 256) :
    ∃ (W : World) (c : Nat) (u : UInt8) (R : ByteArray), (convert 9 35 (.string s)).run Try.prog w = .ok (.slice (some ⟨w.heap.size, 0, none⟩) s.size (grownCap w s.size 0 5)) W ∧ Below w.heap.size w W ∧
      W.cell? ⟨w.heap.size, i, none⟩ = some (.int .u8 c) ∧ W.frozen? ⟨w.heap.size, i, none⟩ = false ∧ bits .xor .u8 (c : Int) t = (u.toNat : Int) ∧ c < 256 ∧
      (∀ cap, (convert 35 9 (.slice (some ⟨w.heap.size, 0, none⟩) s.size cap)).run Try.prog (W.setCell ⟨w.heap.size, i, none⟩ (.int .u8 u.toNat)) = .ok (.string R) (W.setCell ⟨w.heap.size, i, none⟩ (.int .u8 u.toNat))) ∧
      R = ⟨(s.data.toList.set i (turned (s.data.toList[i]'hi) t)).toArray⟩ := by
  have hil : i < s.data.toList.length := hi
  have hcell := Lib.bytesWorld_cell w 5 s i hi
  rw [getD_at' _ _ hil] at hcell
  have hx := u8_xor_nat (s.data.toList[i]).toNat t (s.data.toList[i]).toNat_lt ht
  rw [← turned_toNat _ t ht] at hx
  refine ⟨Lib.bytesWorld w 5 s, (s.data.toList[i]).toNat, turned (s.data.toList[i]) t, _, Lib.run_convert_string_bytes w 9 35 5 s Try.underlying9 Try.underlying35 Try.underlying5,
    ⟨rfl, rfl, rfl, by rw [Lib.bytesWorld_size]; omega, fun k hk => Lib.bytesWorld_at_old _ _ _ _ (by omega)⟩, hcell, bytesWorld_frozen w 5 s i hi, hx, (s.data.toList[i]).toNat_lt, fun cap => ?_, rfl⟩
  have h := run_convert_bytes_back (P := Try.prog) ((Lib.bytesWorld w 5 s).setCell ⟨w.heap.size, i, none⟩ (.int .u8 (turned (s.data.toList[i]) t).toNat)) 35 9 5 ⟨w.heap.size, 0, none⟩ cap
    (s.data.toList.set i (turned (s.data.toList[i]) t)) Try.underlying35 Try.underlying5 Try.underlying9 (fun j hj => by
      have hj' : j < s.size := by simpa using hj
      have ha : (⟨w.heap.size, 0, none⟩ : Addr).add j = ⟨w.heap.size, j, none⟩ := by unfold Addr.add; split <;> simp_all
      rw [ha]
      by_cases e : i = j
      · subst e
        rw [World.cell?_setCell_same _ _ _ hcell]
        simp only [List.getElem_set_self]
      · have hjl : j < s.data.toList.length := hj'
        rw [World.cell?_setCell_other _ _ _ _ (by simp [Ne.symm e]), Lib.bytesWorld_cell w 5 s j hj', getD_at' _ _ hjl, List.getElem_set_ne e])
  rw [List.length_set] at h
  exact h

set_option maxRecDepth 100000 in
set_option maxHeartbeats 800000 in
theorem told_in (s : ByteArray) (i t : Nat) (h1 : 0 < s.size) (h2 : s.size ≤ 2000) (hi : 4 ≤ i) (hl : i < 8 + s.size) (ht : t < 256) (h0 : t ≠ 0) (w : World) :
    Calls Try.prog 9 #[.string s, .int .i64 i, .int .u8 t] w fun e w' => e = .returned (.bool true) ∧ Below w.heap.size w w' := by
  have hfl : (frameL s.data.toList).length = 8 + s.size := frame_length _
  have hil : i < (frameL s.data.toList).length := by omega
  have htd := told s.data.toList (show 1 ≤ s.size from h1) (show s.size ≤ 65536 by omega) i hi hil t ht h0
  have hnext := next_any ⟨((frameL s.data.toList).set i (turned ((frameL s.data.toList)[i]) t)).toArray⟩ (by show ((frameL s.data.toList).set i _).toArray.size ≤ maxLen; rw [List.size_toArray, List.length_set, hfl]; unfold maxLen; omega)
  have hN : ∀ W, Calls Try.prog 23 #[.string ⟨((frameL s.data.toList).set i (turned ((frameL s.data.toList)[i]) t)).toArray⟩] W fun e w' => e = .returned (.tuple #[.string ⟨#[]⟩, .int .i64 0, .int .i64 13]) ∧ Below W.heap.size W w' := fun W =>
    (hnext W).mono fun e w' h => by
      obtain ⟨he, hb⟩ := h
      refine ⟨?_, hb⟩
      rw [he]
      have e3 : nErr (ByteArray.mk ((frameL s.data.toList).set i (turned ((frameL s.data.toList)[i]) t)).toArray).data.toList = 13 := htd
      have e1 : nBody (ByteArray.mk ((frameL s.data.toList).set i (turned ((frameL s.data.toList)[i]) t)).toArray).data.toList = [] := by unfold nBody; rw [e3, if_neg (by decide)]
      have e2 : nUsed (ByteArray.mk ((frameL s.data.toList).set i (turned ((frameL s.data.toList)[i]) t)).toArray).data.toList = 0 := by unfold nUsed; rw [e3, if_neg (by decide)]
      rw [e1, e2, e3]; rfl
  have HN := Lib.hid hN
  clear hnext hN htd
  have ht0 : ((t : Int) == 0) = false := beq_eq_false_iff_ne.2 (by omega)
  go_enter Try.func9, Try.ntmps9
  go_wp2_with fail
  refine (frame_good s h1 (by omega) _).mono ?_
  rintro e w1 ⟨rfl, hb1⟩
  have hct := conv_turn w1 ⟨(frameL s.data.toList).toArray⟩ i t hil ht
  have hfs : (ByteArray.mk (frameL s.data.toList).toArray).size = 8 + s.size := hfl
  obtain ⟨W, c, u, G, kc, hbW, hcell, hfro, hx, hc, hback, hR⟩ := hct
  have HQ := Lib.hid (show ∀ W, Calls Try.prog 23 #[.string G] W fun e w' => e = .returned (.tuple #[.string ⟨#[]⟩, .int .i64 0, .int .i64 13]) ∧ Below W.heap.size W w' by
    subst hR; exact HN.out)
  clear HN hR
  rw [hfs] at kc hback
  generalize ByteArray.mk (frameL s.data.toList).toArray = F at *
  have hcI : (c : Int) < 256 := by omega
  go_wp2_with fail
  refine (HQ.out _).mono ?_
  rintro e w2 ⟨rfl, hb2⟩
  go_wp2_with fail
  refine (awake4 _).mono ?_
  rintro e w3 ⟨rfl, hb3⟩
  go_wp2
  go_ret
  have c1 := (hb1.trans (hbW.mono hb1.size)).setCell (p := ⟨w1.heap.size, i, none⟩) (by exact hb1.size) (.int .u8 u.toNat)
  have c2 := c1.trans (hb2.mono c1.size)
  exact ⟨rfl, c2.trans (hb3.mono c2.size)⟩

set_option maxRecDepth 100000 in
set_option maxHeartbeats 800000 in
theorem told_out (s : ByteArray) (a : Int) (t : Nat) (hs : s.size ≤ maxLen) (w : World)
    (h : s.size = 0 ∨ 65536 < s.size ∨ (0 < s.size ∧ s.size ≤ 65536 ∧ (2000 < s.size ∨ (s.size ≤ 2000 ∧ (a < 4 ∨ (4 ≤ a ∧ ((8 + s.size : Nat) : Int) ≤ a) ∨ (4 ≤ a ∧ a < ((8 + s.size : Nat) : Int) ∧ t = 0)))))) :
    Calls Try.prog 9 #[.string s, .int .i64 a, .int .u8 t] w fun e w' => e = .returned (.bool true) ∧ Below w.heap.size w w' := by
  rcases h with h | h | ⟨h1, h2, h⟩
  · as_aux_lemma =>
    obtain rfl := isNone s h
    go_enter Try.func9, Try.ntmps9
    go_wp2_with fail
    refine (frame_none _).mono ?_
    rintro e w1 ⟨rfl, rfl⟩
    go_wp2_with fail
    refine (awake4 _).mono ?_
    rintro e w3 ⟨rfl, hb3⟩
    go_wp2
    go_ret
    exact ⟨rfl, hb3⟩
  · as_aux_lemma =>
    go_enter Try.func9, Try.ntmps9
    go_wp2_with fail
    refine (frame_big s hs h _).mono ?_
    rintro e w1 ⟨rfl, rfl⟩
    go_wp2_with fail
    refine (awake4 _).mono ?_
    rintro e w3 ⟨rfl, hb3⟩
    go_wp2
    go_ret
    exact ⟨rfl, hb3⟩
  · have hfs : (ByteArray.mk (frameL s.data.toList).toArray).size = 8 + s.size := frame_length s.data.toList
    rcases h with h | ⟨h3, h | ⟨h, h4⟩ | ⟨h, h4, rfl⟩⟩
    all_goals
      as_aux_lemma =>
      go_enter Try.func9, Try.ntmps9
      go_wp2_with fail
      refine (frame_good s h1 h2 _).mono ?_
      rintro e w1 ⟨rfl, hb1⟩
      generalize ByteArray.mk (frameL s.data.toList).toArray = F at *
      go_wp2_with fail
      refine (awake4 _).mono ?_
      rintro e w3 ⟨rfl, hb3⟩
      go_wp2
      go_ret
      exact ⟨rfl, hb1.trans (hb3.mono hb1.size)⟩

theorem frameTold_walk (s : ByteArray) (a b : Int) (hs : s.size ≤ maxLen) (_ha : (Lit.int .i64 a).wf = true) (hb : (Lit.int .u8 b).wf = true) (w : World) :
    Calls Try.prog 9 #[.string s, .int .i64 a, .int .u8 b] w fun e w' => e = .returned (.bool true) ∧ Below w.heap.size w w' := by
  obtain ⟨b0, b1⟩ := bounds_u8 hb
  obtain ⟨t, rfl⟩ := Int.eq_ofNat_of_zero_le b0
  by_cases hin : 0 < s.size ∧ s.size ≤ 2000 ∧ 4 ≤ a ∧ a < ((8 + s.size : Nat) : Int) ∧ t ≠ 0
  · obtain ⟨h1, h2, h3, h4, h5⟩ := hin
    obtain ⟨i, rfl⟩ := Int.eq_ofNat_of_zero_le (show 0 ≤ a by omega)
    exact told_in s i t h1 h2 (by omega) (by omega) (by omega) h5 w
  · exact told_out s a t hs w (by omega)
end Go.Proofs.Yticilbcdpiceaaa
