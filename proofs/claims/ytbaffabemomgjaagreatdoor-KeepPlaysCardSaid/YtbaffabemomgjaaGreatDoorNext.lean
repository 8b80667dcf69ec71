/- The walk of frame.Next: the first record of bytes. Conditions: as each theorem says. -/
import Derived.Test.YtbaffabemomgjaaGreatDoorRead
import Derived.Deep.DeepCutAuto
import Derived.Deep.RegionWith
import Derived.Lib.Strings
namespace Go.Proofs.YtbaffabemomgjaaGreatDoor
open Go.RowKit

/-- The length that a head tells, and the sum that it tells. -/
def hd (l : List UInt8) : Nat := acc (byteAt l) 0 4
def sm (l : List UInt8) : Nat := acc (byteAt l) 4 4
/-- What is wrong with the first record; zero: nothing. -/
def nErr (l : List UInt8) : Nat := if l.length < 8 then 10 else if hd l < 1 ∨ hd l > 65536 then 11 else if l.length < 8 + hd l then 10 else if crc ((l.drop 8).take (hd l)) = sm l then 0 else 13
def nBody (l : List UInt8) : List UInt8 := if nErr l = 0 then (l.drop 8).take (hd l) else []
def nUsed (l : List UInt8) : Nat := if nErr l = 0 then 8 + hd l else 0

theorem hd_lt (l : List UInt8) : hd l < 4294967296 := acc_lt _ (byteAt_lt l) 0 4
theorem sm_lt (l : List UInt8) : sm l < 4294967296 := acc_lt _ (byteAt_lt l) 4 4
/-- What Next answers. -/
def NextSaid (s : ByteArray) (w : World) (e : Ending) (w' : World) : Prop :=
  e = .returned (.tuple #[.string ⟨(nBody s.data.toList).toArray⟩, .int .i64 (nUsed s.data.toList : Nat), .int .i64 (nErr s.data.toList : Nat)]) ∧ Below w.heap.size w w'
theorem nextSaid (s : ByteArray) (w : World) (e : Ending) (w' : World) (b : ByteArray) (u c : Int) (he : e = .returned (.tuple #[.string b, .int .i64 u, .int .i64 c])) (hw : Below w.heap.size w w')
    (hb : b = ⟨(nBody s.data.toList).toArray⟩) (hu : u = (nUsed s.data.toList : Nat)) (hc : c = (nErr s.data.toList : Nat)) : NextSaid s w e w' := by
  subst hb; subst hu; subst hc; exact ⟨he, hw⟩

set_option maxRecDepth 100000 in
set_option maxHeartbeats 400000 in
theorem next_short (s : ByteArray) (h : s.size < 8) (w : World) : Calls Tryz.prog 33 #[.string s] w (NextSaid s w) := by
  have e1 : nErr s.data.toList = 10 := by unfold nErr; rw [if_pos (show s.data.toList.length < 8 from h)]
  have hb : (⟨#[]⟩ : ByteArray) = ⟨(nBody s.data.toList).toArray⟩ := by simp [nBody, e1]
  have hu : (0 : Int) = (nUsed s.data.toList : Nat) := by simp [nUsed, e1]
  have H := Lib.hid (And.intro e1 (And.intro hb hu))
  clear e1 hb hu
  go_enter Tryz.func33, Tryz.ntmps33
  go_wp2
  go_ret3
  exact nextSaid s w _ _ _ _ _ rfl (Below.refl _ _) H.out.2.1 H.out.2.2 (by rw [H.out.1]; rfl)

theorem below_new2 {w w1 : World} {x y : Value} {t : TypeId} (hb : Below (w.alloc (.cells #[x, y] t)).drew.heap.size (w.alloc (.cells #[x, y] t)).drew w1) :
    w1.cell? ⟨w.heap.size, 0, none⟩ = some x ∧ w1.cell? ⟨w.heap.size, 1, none⟩ = some y ∧ w1.frozen? ⟨w.heap.size, 0, none⟩ = false ∧ w1.frozen? ⟨w.heap.size, 1, none⟩ = false := by
  have hh : w1.heap[w.heap.size]? = some (.cells #[x, y] t (0, 0)) := by
    rw [hb.block w.heap.size (by simp [heap_drew]), heap_drew, heap_alloc_new]
  exact ⟨by simp [World.cell?, hh], by simp [World.cell?, hh], frozen_of_row _ _ _ _ _ hh, frozen_of_row _ _ _ _ _ hh⟩
set_option maxRecDepth 100000 in
set_option maxHeartbeats 800000 in
theorem next_long (s : ByteArray) (hs : s.size ≤ maxLen) (h : 8 ≤ s.size) (w : World) : Calls Tryz.prog 33 #[.string s] w (NextSaid s w) := by
  have hs' := hs
  unfold maxLen at hs'
  have h1 := hd_lt s.data.toList
  have h2 := sm_lt s.data.toList
  have hx : (8 : Int) ≤ (s.size : Int) := by omega
  have hr := hread_any s hs h
  have hq : Calls Tryz.prog 55 #[.string s] (w.alloc (.cells #[.int .i64 0, .int .u32 0] 78)).drew fun e w1 => e = .returned (.agg #[.int .i64 (hd s.data.toList : Nat), .int .u32 (sm s.data.toList : Nat)]) ∧ Below w.heap.size w w1 ∧
      w1.cell? ⟨w.heap.size, 0, none⟩ = some (.int .i64 0) ∧ w1.cell? ⟨w.heap.size, 1, none⟩ = some (.int .u32 0) ∧ w1.frozen? ⟨w.heap.size, 0, none⟩ = false ∧ w1.frozen? ⟨w.heap.size, 1, none⟩ = false :=
    (hr _).mono fun e w1 ⟨he, hb⟩ => ⟨he, (((Below.refl _ w).alloc (Nat.le_refl _) _).drew).trans (hb.mono (by simp [heap_drew])), below_new2 hb⟩
  have hp : Calls Tryz.prog 55 #[.string s] w.drew fun e w1 => e = .returned (.agg #[.int .i64 (hd s.data.toList : Nat), .int .u32 (sm s.data.toList : Nat)]) ∧ Below w.heap.size w w1 :=
    (hr _).mono fun e w1 ⟨he, hb⟩ => ⟨he, ((Below.refl _ w).drew).trans hb⟩
  have Hq := Lib.hid hq
  have Hp := Lib.hid hp
  clear hr hq hp
  go_enter Tryz.func33, Tryz.ntmps33
  go_upto_region 3 with fail
  go_cut [5, 6] (fun s5 s6 wx => ∃ g : Nat, s5 = .pointer (some ⟨g, 0, none⟩) ∧ s6 = .string (s.extract 8 s.size) ∧ wx.cell? ⟨g, 0, none⟩ = some (.int .i64 (hd s.data.toList : Nat)) ∧ wx.cell? ⟨g, 1, none⟩ = some (.int .u32 (sm s.data.toList : Nat)) ∧ Below w.heap.size w wx)
  case first => as_aux_lemma =>
    go_region_with (first | (go_at_call 55; (with_reducible refine Hq.out.mono ?_); rintro e w1 ⟨rfl, hb1, z0, z1, z2, z3⟩) | (go_at_call 55; (with_reducible refine Hp.out.mono ?_); rintro e w1 ⟨rfl, hb1⟩))
    · go_wp2_with fail
      go_meet
      exact ⟨_, rfl, rfl, by simp [World.cell?_alloc_new], by simp [World.cell?_alloc_new], hb1.alloc (hb1.size) _⟩
    · go_wp2_with fail
      go_meet
      exact ⟨_, rfl, rfl, by simp [go_sem, z0, z1], by simp [go_sem, z0, z1], (hb1.setCell (by simp) _).setCell (by simp) _⟩
  case rest =>
    obtain ⟨g, rfl, rfl, hc0, hc1, hb⟩ := hcut
    clear Hq Hp
    have hl : s.data.toList.length = s.size := rfl
    have hle : (s.extract 8 s.size).size = s.size - 8 := by simp
    have hbody : ∀ n, (s.extract 8 s.size).extract 0 n = ⟨((s.data.toList.drop 8).take n).toArray⟩ := fun n => by
      rw [Lib.extract_eq, Lib.extract_data, List.drop_zero, Nat.sub_zero, List.take_of_length_le (l := (s.data.toList.drop 8)) (by simp)]
    have HE := Lib.hid (show nErr s.data.toList = if hd s.data.toList < 1 ∨ hd s.data.toList > 65536 then 11 else if s.size < 8 + hd s.data.toList then 10 else if crc ((s.data.toList.drop 8).take (hd s.data.toList)) = sm s.data.toList then 0 else 13 by
      unfold nErr; rw [if_neg (by omega), hl])
    have HU := Lib.hid (show nUsed s.data.toList = if nErr s.data.toList = 0 then 8 + hd s.data.toList else 0 from rfl)
    have HB := Lib.hid (show nBody s.data.toList = if nErr s.data.toList = 0 then (s.data.toList.drop 8).take (hd s.data.toList) else [] from rfl)
    generalize hd s.data.toList = n at *
    generalize sm s.data.toList = c at *
    have hbad : nErr s.data.toList ≠ 0 → (⟨#[]⟩ : ByteArray) = ⟨(nBody s.data.toList).toArray⟩ ∧ (0 : Int) = (nUsed s.data.toList : Nat) := fun h => by rw [HB.out, HU.out, if_neg h, if_neg h]; exact ⟨rfl, rfl⟩
    have Hbad := Lib.hid hbad
    have Hbody := Lib.hid hbody
    clear hbad hbody
    by_cases a1 : n < 1
    · as_aux_lemma =>
      have e1 : nErr s.data.toList = 11 := by rw [HE.out, if_pos (.inl a1)]
      have HX := Lib.hid e1
      clear e1
      go_wp2
      go_ret3
      exact nextSaid s w _ _ _ _ _ rfl hb (Hbad.out (by rw [HX.out]; decide)).1 (Hbad.out (by rw [HX.out]; decide)).2 (by rw [HX.out]; rfl)
    by_cases a2 : 65536 < n
    · as_aux_lemma =>
      have e1 : nErr s.data.toList = 11 := by rw [HE.out, if_pos (.inr a2)]
      have HX := Lib.hid e1
      clear e1
      go_wp2
      go_ret3
      exact nextSaid s w _ _ _ _ _ rfl hb (Hbad.out (by rw [HX.out]; decide)).1 (Hbad.out (by rw [HX.out]; decide)).2 (by rw [HX.out]; rfl)
    have HE2 := Lib.hid (show nErr s.data.toList = if s.size < 8 + n then 10 else if crc ((s.data.toList.drop 8).take n) = c then 0 else 13 by rw [HE.out, if_neg (by omega)])
    by_cases a3 : s.size - 8 < n
    · as_aux_lemma =>
      have e1 : nErr s.data.toList = 10 := by rw [HE2.out, if_pos (by omega)]
      have HX := Lib.hid e1
      clear e1
      go_wp2
      go_ret3
      exact nextSaid s w _ _ _ _ _ rfl hb (Hbad.out (by rw [HX.out]; decide)).1 (Hbad.out (by rw [HX.out]; decide)).2 (by rw [HX.out]; rfl)
    have HE3 := Lib.hid (show nErr s.data.toList = if crc ((s.data.toList.drop 8).take n) = c then 0 else 13 by rw [HE2.out, if_neg (by omega)])
    have hsum := fun W => sum_any ((s.extract 8 s.size).extract 0 n) (by rw [Hbody.out]; show ((s.data.toList.drop 8).take n).toArray.size ≤ maxLen; simp; omega) W
    have ecr : crc ((s.extract 8 s.size).extract 0 n).data.toList = crc ((s.data.toList.drop 8).take n) := by rw [Hbody.out]
    rw [ecr] at hsum
    have hsum' := hsum
    clear hsum ecr
    generalize hm : crc ((s.data.toList.drop 8).take n) = m at *
    have Hsum := Lib.hid hsum'
    clear hsum' hm HE HE2
    by_cases a4 : m = c
    · as_aux_lemma =>
      subst a4
      have e1 : nErr s.data.toList = 0 := by rw [HE3.out, if_pos rfl]
      have HX := Lib.hid e1
      clear e1
      go_wp2_with fail
      have hex := Grew.all wc
      refine wp_region_grew (by kernel_rfl) (by kernel_rfl) ?_
      repeat (first | go_big_quiet_skip | (go_big_quiet_want; first | (refine quiet_load_cell 3 (.tmp 31) rfl _ rfl _ _ Tryz.underlying3 rfl (fun W hW => Grew.cell hW hc0) ?_; simp only [Act.put, List.setIfInBounds_toArray, List.set_cons_succ, List.set_cons_zero]; go_big_quiet_on) | (refine quiet_load_cell 75 (.tmp 35) rfl _ rfl _ _ Tryz.underlying75 rfl (fun W hW => Grew.cell hW hc1) ?_; simp only [Act.put, List.setIfInBounds_toArray, List.set_cons_succ, List.set_cons_zero]; go_big_quiet_on) | (go_big_quiet_op; first | go_big_quiet_on | (apply Exists.intro; refine ⟨fun W hW => ?_, ?_⟩; (first | (go_at_call 50; with_reducible exact Calls.grew hW (Hsum.out _))); go_big_quiet_on))))
      refine wpQuiet_nil ?_
      intro w2 hw2
      have hc0' := Grew.cell hw2 hc0
      clear hex
      go_wp2_with fail
      have hex := Grew.all w2
      refine wp_region_grew (by kernel_rfl) (by kernel_rfl) ?_
      repeat (first | go_big_quiet_skip | (go_big_quiet_want; first | (refine quiet_load_cell 3 (.tmp 39) rfl _ rfl _ _ Tryz.underlying3 rfl (fun W hW => Grew.cell hW hc0') ?_; simp only [Act.put, List.setIfInBounds_toArray, List.set_cons_succ, List.set_cons_zero]; go_big_quiet_on) | (refine quiet_load_cell 3 (.tmp 42) rfl _ rfl _ _ Tryz.underlying3 rfl (fun W hW => Grew.cell hW hc0') ?_; simp only [Act.put, List.setIfInBounds_toArray, List.set_cons_succ, List.set_cons_zero]; go_big_quiet_on) | (go_big_quiet_op; first | go_big_quiet_on | (apply Exists.intro; refine ⟨fun W hW => ?_, ?_⟩; (first | fail); go_big_quiet_on))))
      refine wpQuiet_nil ?_
      intro w3 hw3
      go_wp2
      go_ret3
      exact nextSaid s w _ _ _ _ _ rfl ((hb.trans (Below.mono hw2 hb.size)).trans (Below.mono hw3 (Nat.le_trans hb.size (Below.size hw2)))) (by rw [Hbody.out, HB.out, if_pos HX.out]) (by rw [HU.out, if_pos HX.out]; rfl) (by rw [HX.out]; rfl)
    · as_aux_lemma =>
      have e1 : nErr s.data.toList = 13 := by rw [HE3.out, if_neg a4]
      have HX := Lib.hid e1
      have hne : ((m : Int) == (c : Int)) = false := beq_eq_false_iff_ne.2 (by omega)
      have hne2 : ((m : Int) != (c : Int)) = true := by rw [bne_iff_ne]; omega
      clear e1 a4
      go_wp2_with fail
      have hex := Grew.all wc
      refine wp_region_grew (by kernel_rfl) (by kernel_rfl) ?_
      repeat (first | go_big_quiet_skip | (go_big_quiet_want; first | (refine quiet_load_cell 3 (.tmp 31) rfl _ rfl _ _ Tryz.underlying3 rfl (fun W hW => Grew.cell hW hc0) ?_; simp only [Act.put, List.setIfInBounds_toArray, List.set_cons_succ, List.set_cons_zero]; go_big_quiet_on) | (refine quiet_load_cell 75 (.tmp 35) rfl _ rfl _ _ Tryz.underlying75 rfl (fun W hW => Grew.cell hW hc1) ?_; simp only [Act.put, List.setIfInBounds_toArray, List.set_cons_succ, List.set_cons_zero]; go_big_quiet_on) | (go_big_quiet_op; first | go_big_quiet_on | (apply Exists.intro; refine ⟨fun W hW => ?_, ?_⟩; (first | (go_at_call 50; with_reducible exact Calls.grew hW (Hsum.out _))); go_big_quiet_on))))
      refine wpQuiet_nil ?_
      intro w2 hw2
      clear hex
      go_wp2
      go_ret3
      exact nextSaid s w _ _ _ _ _ rfl (hb.trans (Below.mono hw2 hb.size)) (Hbad.out (by rw [HX.out]; decide)).1 (Hbad.out (by rw [HX.out]; decide)).2 (by rw [HX.out]; rfl)
theorem next_any (s : ByteArray) (hs : s.size ≤ maxLen) (w : World) : Calls Tryz.prog 33 #[.string s] w (NextSaid s w) := by
  by_cases h : s.size < 8
  · exact next_short s h w
  · exact next_long s hs (by omega) w
end Go.Proofs.YtbaffabemomgjaaGreatDoor
