/- The walks of the reference's Frame and Next, and the chapter's examples. Conditions: as each theorem says. -/
import Derived.Test.YtbaffabemomgjaaGreatDoorNumber
namespace Go.Proofs.YtbaffabemomgjaaGreatDoor
open Go.RowKit

set_option maxRecDepth 100000 in
set_option maxHeartbeats 400000 in
theorem refframe_none (w : World) : Calls Tryz.prog 29 #[.string ⟨#[]⟩] w fun e w' => e = .returned (.tuple #[.string ⟨#[]⟩, .int .i64 1]) ∧ w = w' := by
  go_enter Tryz.func29, Tryz.ntmps29
  go_wp2
  go_ret2
  exact ⟨rfl, rfl⟩
set_option maxRecDepth 100000 in
set_option maxHeartbeats 400000 in
theorem refframe_big (s : ByteArray) (hs : s.size ≤ maxLen) (h : 65536 < s.size) (w : World) : Calls Tryz.prog 29 #[.string s] w fun e w' => e = .returned (.tuple #[.string ⟨#[]⟩, .int .i64 31]) ∧ w = w' := by
  unfold maxLen at hs
  have he := notEmpty s (by omega)
  go_enter Tryz.func29, Tryz.ntmps29
  go_wp2
  go_ret2
  exact ⟨rfl, rfl⟩
set_option maxRecDepth 100000 in
set_option maxHeartbeats 400000 in
theorem refframe_good (s : ByteArray) (h0 : 0 < s.size) (h : s.size ≤ 65536) (w : World) : Calls Tryz.prog 29 #[.string s] w fun e w' => e = .returned (.tuple #[.string ⟨(frameL s.data.toList).toArray⟩, .int .i64 0]) ∧ Below w.heap.size w w' := by
  have hm : s.size ≤ maxLen := by unfold maxLen; omega
  have he := notEmpty s (by omega)
  have hc := crc_lt s.data.toList
  go_enter Tryz.func29, Tryz.ntmps29
  go_wp2_with fail
  refine (four_any s.size (by omega) _).mono ?_
  rintro e w1 ⟨rfl, hb1⟩
  go_wp2_with fail
  refine (refsum_any s hm _).mono ?_
  rintro e w2 ⟨rfl, rfl⟩
  go_wp2_with fail
  refine (four_any _ hc _).mono ?_
  rintro e w3 ⟨rfl, hb3⟩
  have ha : (⟨(le4 s.size).toArray⟩ : ByteArray) ++ (⟨(le4 (crc s.data.toList)).toArray⟩ : ByteArray) = ⟨(le4 s.size ++ le4 (crc s.data.toList)).toArray⟩ := append_mk _ _
  have hb := append_mk (le4 s.size ++ le4 (crc s.data.toList)) s
  have hl1 : (ByteArray.mk (le4 s.size).toArray).size = 4 := rfl
  have hl2 : (ByteArray.mk (le4 (crc s.data.toList)).toArray).size = 4 := rfl
  have hl : (ByteArray.mk (le4 s.size ++ le4 (crc s.data.toList)).toArray).size = 8 := rfl
  go_wp2
  go_ret2
  exact ⟨rfl, hb1.trans (hb3.mono hb1.size)⟩

theorem ofNat_acc (B : Nat → Nat) (hB : ∀ j, B j < 256) (l : List UInt8) (h : ∀ j, B j = byteAt l j) (o : Nat) (hl : o + 4 ≤ l.length) : le4 (acc B o 4) = (l.drop o).take 4 := by
  have e : acc B o 4 = B o + B (o + 1) * 256 + B (o + 2) * 65536 + B (o + 3) * 16777216 := by simp [acc]
  have h0 := hB o
  have h1 := hB (o + 1)
  have h2 := hB (o + 2)
  have h3 := hB (o + 3)
  rw [e]
  apply List.ext_getElem
  · simp [le4]; omega
  · intro j hj hj'
    have hj4 : j < 4 := by simpa [le4] using hj
    have hb : ∀ k (hk : k < l.length), UInt8.ofNat (B k) = l[k] := fun k hk => by
      rw [h k, byteAt, getD_at' l k hk]; simp
    have : ∀ (x : UInt8), UInt8.ofNat x.toNat = x := fun x => by simp
    simp only [List.getElem_take, List.getElem_drop]
    rw [← hb (o + j) (by omega)]
    rcases (show j = 0 ∨ j = 1 ∨ j = 2 ∨ j = 3 by omega) with rfl | rfl | rfl | rfl <;> (apply UInt8.toNat_inj.mp; simp [le4, UInt8.toNat_ofNat']; try omega)
theorem le4_inj (m n : Nat) (hm : m < 4294967296) (hn : n < 4294967296) (h : le4 m = le4 n) : m = n := by
  simp only [le4, List.cons.injEq, and_true] at h
  obtain ⟨h0, h1, h2, h3⟩ := h
  have f : ∀ a b : Nat, UInt8.ofNat a = UInt8.ofNat b → a % 256 = b % 256 := fun a b e => by
    have := congrArg UInt8.toNat e
    simpa [UInt8.toNat_ofNat'] using this
  have := f _ _ h0
  have := f _ _ h1
  have := f _ _ h2
  have := f _ _ h3
  omega

set_option maxRecDepth 100000 in
set_option maxHeartbeats 400000 in
theorem refnext_short (s : ByteArray) (h : s.size < 8) (w : World) : Calls Tryz.prog 34 #[.string s] w (NextSaid s w) := by
  have e1 : nErr s.data.toList = 10 := by unfold nErr; rw [if_pos (show s.data.toList.length < 8 from h)]
  have hb : (⟨#[]⟩ : ByteArray) = ⟨(nBody s.data.toList).toArray⟩ := by simp [nBody, e1]
  have hu : (0 : Int) = (nUsed s.data.toList : Nat) := by simp [nUsed, e1]
  have H := Lib.hid (And.intro e1 (And.intro hb hu))
  clear e1 hb hu
  go_enter Tryz.func34, Tryz.ntmps34
  go_wp2
  go_ret3
  exact nextSaid s w _ _ _ _ _ rfl (Below.refl _ _) H.out.2.1 H.out.2.2 (by rw [H.out.1]; rfl)

set_option maxRecDepth 100000 in
set_option maxHeartbeats 800000 in
theorem refnext_long (s : ByteArray) (hs : s.size ≤ maxLen) (h : 8 ≤ s.size) (w : World) : Calls Tryz.prog 34 #[.string s] w (NextSaid s w) := by
  have hs' := hs
  unfold maxLen at hs'
  have h1 := hd_lt s.data.toList
  have h2 := sm_lt s.data.toList
  have hx : (8 : Int) ≤ (s.size : Int) := by omega
  have hr : ∀ W, Calls Tryz.prog 56 #[.string s] W fun e w' => e = .returned (.int .i64 (hd s.data.toList : Nat)) ∧ Below W.heap.size W w' := fun W => number_any s hs (by omega) W
  have Hr := Lib.hid hr
  clear hr
  have hl : s.data.toList.length = s.size := rfl
  have hbody : ∀ n, s.extract 8 (8 + n) = ⟨((s.data.toList.drop 8).take n).toArray⟩ := fun n => by rw [Lib.extract_eq, Nat.add_sub_cancel_left]
  have hsum4 : (s.extract 4 8) = ⟨(le4 (sm s.data.toList)).toArray⟩ := by
    rw [Lib.extract_eq, show le4 (sm s.data.toList) = (s.data.toList.drop 4).take 4 from ofNat_acc _ (byteAt_lt _) s.data.toList (fun _ => rfl) 4 (by omega)]
  have HE := Lib.hid (show nErr s.data.toList = if hd s.data.toList < 1 ∨ hd s.data.toList > 65536 then 11 else if s.size < 8 + hd s.data.toList then 10 else if crc ((s.data.toList.drop 8).take (hd s.data.toList)) = sm s.data.toList then 0 else 13 by
    unfold nErr; rw [if_neg (by omega), hl])
  have HU := Lib.hid (show nUsed s.data.toList = if nErr s.data.toList = 0 then 8 + hd s.data.toList else 0 from rfl)
  have HB := Lib.hid (show nBody s.data.toList = if nErr s.data.toList = 0 then (s.data.toList.drop 8).take (hd s.data.toList) else [] from rfl)
  generalize hd s.data.toList = n at *
  generalize sm s.data.toList = c at *
  have hbad : nErr s.data.toList ≠ 0 → (⟨#[]⟩ : ByteArray) = ⟨(nBody s.data.toList).toArray⟩ ∧ (0 : Int) = (nUsed s.data.toList : Nat) := fun h => by rw [HB.out, HU.out, if_neg h, if_neg h]; exact ⟨rfl, rfl⟩
  have Hbad := Lib.hid hbad
  have Hbody := Lib.hid hbody
  have Hsum4 := Lib.hid hsum4
  clear hbad hbody hsum4
  by_cases a1 : n < 1
  · as_aux_lemma =>
    have e1 : nErr s.data.toList = 11 := by rw [HE.out, if_pos (.inl a1)]
    have HX := Lib.hid e1
    clear e1
    go_enter Tryz.func34, Tryz.ntmps34
    go_wp2_with fail
    refine (Hr.out _).mono ?_
    rintro e w1 ⟨rfl, hb⟩
    go_wp2
    go_ret3
    exact nextSaid s w _ _ _ _ _ rfl hb (Hbad.out (by rw [HX.out]; decide)).1 (Hbad.out (by rw [HX.out]; decide)).2 (by rw [HX.out]; rfl)
  by_cases a2 : 65536 < n
  · as_aux_lemma =>
    have e1 : nErr s.data.toList = 11 := by rw [HE.out, if_pos (.inr a2)]
    have HX := Lib.hid e1
    clear e1
    go_enter Tryz.func34, Tryz.ntmps34
    go_wp2_with fail
    refine (Hr.out _).mono ?_
    rintro e w1 ⟨rfl, hb⟩
    go_wp2
    go_ret3
    exact nextSaid s w _ _ _ _ _ rfl hb (Hbad.out (by rw [HX.out]; decide)).1 (Hbad.out (by rw [HX.out]; decide)).2 (by rw [HX.out]; rfl)
  have HE2 := Lib.hid (show nErr s.data.toList = if s.size < 8 + n then 10 else if crc ((s.data.toList.drop 8).take n) = c then 0 else 13 by rw [HE.out, if_neg (by omega)])
  by_cases a3 : s.size < 8 + n
  · as_aux_lemma =>
    have e1 : nErr s.data.toList = 10 := by rw [HE2.out, if_pos (by omega)]
    have HX := Lib.hid e1
    clear e1
    go_enter Tryz.func34, Tryz.ntmps34
    go_wp2_with fail
    refine (Hr.out _).mono ?_
    rintro e w1 ⟨rfl, hb⟩
    go_wp2
    go_ret3
    exact nextSaid s w _ _ _ _ _ rfl hb (Hbad.out (by rw [HX.out]; decide)).1 (Hbad.out (by rw [HX.out]; decide)).2 (by rw [HX.out]; rfl)
  have HE3 := Lib.hid (show nErr s.data.toList = if crc ((s.data.toList.drop 8).take n) = c then 0 else 13 by rw [HE2.out, if_neg (by omega)])
  have hsum := fun W => refsum_any (s.extract 8 (8 + n)) (by rw [Hbody.out]; show ((s.data.toList.drop 8).take n).toArray.size ≤ maxLen; simp; omega) W
  have ecr : crc (s.extract 8 (8 + n)).data.toList = crc ((s.data.toList.drop 8).take n) := by rw [Hbody.out]
  rw [ecr] at hsum
  have hml : crc ((s.data.toList.drop 8).take n) < 4294967296 := crc_lt _
  have hsum' := hsum
  clear hsum ecr
  generalize hm : crc ((s.data.toList.drop 8).take n) = m at *
  have Hsum := Lib.hid hsum'
  have Hfour := Lib.hid (fun W => four_any m hml W)
  clear hsum' hm HE HE2
  have h8n : 8 + n ≤ s.size := by omega
  have h8n' : (8 : Int) + (n : Int) ≤ (s.size : Int) := by omega
  by_cases a4 : m = c
  · as_aux_lemma =>
    have e1 : nErr s.data.toList = 0 := by rw [HE3.out, if_pos a4]
    have HX := Lib.hid e1
    have hcmp : (le4 m == (s.extract 4 8).toList) = true := by rw [Hsum4.out, a4, ByteArray.toList_eq]; simp
    clear e1 a4 HE3
    go_enter Tryz.func34, Tryz.ntmps34
    go_wp2_with fail
    refine (Hr.out _).mono ?_
    rintro e w1 ⟨rfl, hb⟩
    go_wp2_with fail
    have hex := Grew.all w1
    refine wp_region_grew (by kernel_rfl) (by kernel_rfl) ?_
    repeat (first | go_big_quiet_skip | (go_big_quiet_want; go_big_quiet_op; first | go_big_quiet_on | (apply Exists.intro; refine ⟨fun W hW => ?_, ?_⟩; (first | (go_at_call 53; with_reducible exact Calls.grew_same hW (Hsum.out _)) | (go_at_call 52; with_reducible exact Calls.grew hW (Hfour.out _))); go_big_quiet_on)))
    refine wpQuiet_nil ?_
    intro w2 hw2
    clear hex
    go_wp2
    go_ret3
    exact nextSaid s w _ _ _ _ _ rfl (hb.trans (Below.mono hw2 hb.size)) (by rw [Hbody.out, HB.out, if_pos HX.out]) (by rw [HU.out, if_pos HX.out]; rfl) (by rw [HX.out]; rfl)
  · as_aux_lemma =>
    have e1 : nErr s.data.toList = 13 := by rw [HE3.out, if_neg a4]
    have HX := Lib.hid e1
    have hcmp : (le4 m == (s.extract 4 8).toList) = false := by
      rw [beq_eq_false_iff_ne, Hsum4.out, ByteArray.toList_eq]
      exact fun h => a4 (le4_inj m c hml h2 h)
    clear e1 a4 HE3
    go_enter Tryz.func34, Tryz.ntmps34
    go_wp2_with fail
    refine (Hr.out _).mono ?_
    rintro e w1 ⟨rfl, hb⟩
    go_wp2_with fail
    have hex := Grew.all w1
    refine wp_region_grew (by kernel_rfl) (by kernel_rfl) ?_
    repeat (first | go_big_quiet_skip | (go_big_quiet_want; go_big_quiet_op; first | go_big_quiet_on | (apply Exists.intro; refine ⟨fun W hW => ?_, ?_⟩; (first | (go_at_call 53; with_reducible exact Calls.grew_same hW (Hsum.out _)) | (go_at_call 52; with_reducible exact Calls.grew hW (Hfour.out _))); go_big_quiet_on)))
    refine wpQuiet_nil ?_
    intro w2 hw2
    clear hex
    go_wp2
    go_ret3
    exact nextSaid s w _ _ _ _ _ rfl (hb.trans (Below.mono hw2 hb.size)) (Hbad.out (by rw [HX.out]; decide)).1 (Hbad.out (by rw [HX.out]; decide)).2 (by rw [HX.out]; rfl)

theorem refnext_any (s : ByteArray) (hs : s.size ≤ maxLen) (w : World) : Calls Tryz.prog 34 #[.string s] w (NextSaid s w) := by
  by_cases h : s.size < 8
  · exact refnext_short s h w
  · exact refnext_long s hs (by omega) w
end Go.Proofs.YtbaffabemomgjaaGreatDoor
