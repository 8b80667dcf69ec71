/- The walks of In, Next, Key and the reference's Runes. Conditions: as each theorem says. -/
import Derived.Test.YtmiloedhhnknpaaDoorNamF
namespace Go.Proofs.YtmiloedhhnknpaaDoor
open Go.RowKit

set_option maxRecDepth 1000000 in
set_option maxHeartbeats 1000000 in
theorem refRunes_any (s : ByteArray) (w : World) (hs : s.size ≤ 9223372036854775807) :
    Calls Tryd.prog 17 #[.string s] w fun e w' => e = .returned (.int .i64 (runesI s.data.toList)) ∧ Below w.heap.size w w' := by
  have HR : Hid (runesI s.data.toList = cntL s.size s.data.toList 0) := by show _ = _; unfold runesI; rw [Lib.size_eq]
  generalize runesI s.data.toList = R at *
  go_enter Tryd.func17, Tryd.ntmps17
  go_wp2_with (fail)
  go_loopw [0, 3] (fun v0 v3 wr => ∃ (r : ByteArray) (f : Nat) (n : Int), v0 = .string r ∧ v3 = .int .i64 n ∧ Below w.heap.size w wr ∧ Hid (R = cntL f r.data.toList n) ∧ r.size ≤ f ∧ f ≤ s.size ∧ 0 ≤ n ∧ n + (r.size : Int) ≤ (s.size : Int)) (fun v0 _ _ => strLen v0)
  case atStart => exact ⟨s, s.size, 0, rfl, rfl, Below.refl _ _, HR, by omega, by omega, by omega, by omega⟩
  case round =>
    obtain ⟨r, f, n, rfl, rfl, hbw, hR, hf, hfs, hn0, hn1⟩ := hrel
    by_cases hp : 0 < r.size
    · have hne : r.data.toList ≠ [] := by
        have := Lib.size_eq r
        exact List.length_pos_iff.1 (by omega)
      have hdp : decide (0 < (r.size : Int)) = true := decide_eq_true (by omega)
      have HW := Lib.hid (fun W => first_any r W (by omega))
      unfold FirstSaid at HW
      obtain ⟨f', rfl⟩ : ∃ f', f = f' + 1 := ⟨f - 1, by omega⟩
      by_cases hb : badL r.data.toList = true
      · as_aux_lemma =>
        rw [firstL_bad _ hb] at HW
        have HF : Hid (R = -1) := by show _ = _; rw [hR.out, cntL_bad _ _ _ hne hb]
        clear hb hne
        go_wp2_with (fail)
        refine (HW.out _).mono ?_
        rintro e w' ⟨rfl, hb1⟩
        go_wp2
        go_ret
        exact ⟨by rw [HF.out]; rfl, hbw.trans (hb1.mono hbw.size)⟩
      · as_aux_lemma =>
        have hb' : badL r.data.toList = false := by simpa using hb
        rw [firstL_good _ hne hb'] at HW
        have HF := Lib.hid (cntL_step f' r.data.toList n hne hb')
        obtain ⟨hw1, hw2⟩ := decodeL_le _ hne
        rw [← Lib.size_eq] at hw2
        generalize Lib.decodeL r.data.toList = d at *
        obtain ⟨dr, k⟩ := d
        simp only at hw1 hw2 HF HW
        have hk0 : ((k : Int) == 0) = false := by rw [beq_eq_false_iff_ne]; omega
        have HE := Lib.hid (extract_drop r k)
        have hes : (r.extract k r.size).size = r.size - k := by rw [Lib.size_eq, extract_drop, List.length_drop, ← Lib.size_eq]
        have Hes := Lib.hid hes
        have hk1 : (k : Int) ≤ (r.size : Int) := by omega
        clear hb hb' hne hes
        go_wp2_with (fail)
        refine (HW.out _).mono ?_
        rintro e w' ⟨rfl, hb1⟩
        go_wp2
        go_roundw
        case rel => exact ⟨r.extract k r.size, f', n + 1, rfl, rfl, hbw.trans (hb1.mono hbw.size), by show _ = _; rw [hR.out, HF.out, HE.out], by rw [Hes.out]; omega, by omega, by omega, by rw [Hes.out]; omega⟩
        case measure => show (r.extract k r.size).size < r.size; rw [Hes.out]; omega
    · as_aux_lemma =>
      have hz : r.size = 0 := by omega
      have HF : Hid (R = n) := by
        show _ = _
        rw [hR.out, show r.data.toList = [] from List.eq_nil_of_length_eq_zero (by rw [← Lib.size_eq]; exact hz), cntL_nil]
      have hdp : decide (0 < (r.size : Int)) = false := decide_eq_false (by omega)
      clear hz
      go_wp2
      go_ret
      exact ⟨by rw [HF.out]; rfl, hbw⟩

theorem conv1 (w : World) (c : UInt8) (h : c.toNat < 255) : ∀ o, o = Obj.cells #[.int .u8 ((c.toNat : Int) + 1)] 5 (0, 0) →
    (convert 32 9 (.slice (some ⟨w.heap.size, 0, none⟩) 1 1)).run Tryd.prog (w.alloc o).drew = .ok (.string (bs [c + 1])) (w.alloc o).drew := by
  intro o ho
  subst ho
  have e : ((c + 1).toNat : Int) = (c.toNat : Int) + 1 := by rw [UInt8.toNat_add]; show (((c.toNat + 1) % 256 : Nat) : Int) = _; omega
  have hb := run_convert_bytes_back (P := Tryd.prog) (w.alloc (.cells #[.int .u8 ((c.toNat : Int) + 1)] 5)).drew 32 9 5 ⟨w.heap.size, 0, none⟩ 1 [c + 1] Tryd.underlying32 Tryd.underlying5 Tryd.underlying9 (fun j hj => by
    have hj0 : j = 0 := by simpa using hj
    subst hj0
    show (w.alloc _).cell? ⟨w.heap.size, 0, none⟩ = _
    rw [World.cell?_alloc_at _ _ _ _ rfl]
    show some (Value.int .u8 _) = some (Value.int .u8 ((c + 1).toNat : Int))
    rw [e])
  exact hb
def nextF : Nat → List UInt8 → List UInt8
  | 0, _ => [0]
  | k + 1, l => if l.getD k 0 < 255 then l.take k ++ [l.getD k 0 + 1] else nextF k l
def nextL (l : List UInt8) : List UInt8 := nextF l.length l
theorem nextF_take : ∀ (k j : Nat) (l : List UInt8), k ≤ j → nextF k (l.take j) = nextF k l
  | 0, _, _, _ => rfl
  | k + 1, j, l, h => by
    unfold nextF
    have e : (l.take j).getD k 0 = l.getD k 0 := by simp [List.getD, List.getElem?_take, show k < j by omega]
    rw [e, List.take_take, Nat.min_eq_left (by omega), nextF_take k j l (by omega)]

set_option maxRecDepth 1000000 in
set_option maxHeartbeats 1000000 in
theorem next_any (s : ByteArray) (w : World) (hs : s.size ≤ 140737488355328) :
    Calls Tryd.prog 10 #[.string s] w fun e w' => e = .returned (.string (bs (nextL s.data.toList))) ∧ Below w.heap.size w w' := by
  have HR : Hid (nextL s.data.toList = nextF s.size s.data.toList) := by show _ = _; unfold nextL; rw [Lib.size_eq]
  generalize nextL s.data.toList = R at *
  go_enter Tryd.func10, Tryd.ntmps10
  go_wp2_with (fail)
  go_loop [3] (fun v3 => ∃ (k : Nat), v3 = .int .i64 ((k : Int) - 1) ∧ k ≤ s.size ∧ Hid (R = nextF k s.data.toList)) (fun v3 => (intOf v3 + 1).toNat)
  case atStart => exact ⟨s.size, rfl, by omega, HR⟩
  case round =>
    obtain ⟨k, rfl, hk, hR⟩ := hrel
    by_cases h0 : 0 < k
    · obtain ⟨j, rfl⟩ : ∃ j, k = j + 1 := ⟨k - 1, by omega⟩
      have hj : j < s.size := by omega
      have HG := Lib.hid (getD_at s j hj)
      have hjj : ((j + 1 : Nat) : Int) - 1 = (j : Int) := by omega
      rw [hjj]
      have hd : decide (0 ≤ (j : Int)) = true := decide_eq_true (by omega)
      have hj0 : (j : Int) < (s.size : Int) := by omega
      clear hjj
      by_cases hb : s[j].toNat < 255
      · as_aux_lemma =>
        have hdb : decide ((s[j].toNat : Int) < 255) = true := decide_eq_true (by omega)
        have HF : Hid (R = s.data.toList.take j ++ [s[j] + 1]) := by
          show _ = _
          rw [hR.out, nextF, HG.out, if_pos (UInt8.lt_iff_toNat_lt.2 hb)]
        have hcv := conv1 w s[j] hb _ rfl
        have HX : Hid (bs (s.data.toList.take j ++ [s[j] + 1]) = s.extract 0 j ++ bs [s[j] + 1]) := by
          show _ = _
          rw [← bs_append, Lib.extract_eq]; rfl
        have hes : (s.extract 0 j).size + 1 ≤ 9223372036854775807 := by rw [Lib.size_eq, Lib.extract_data]; simp; have := Lib.size_eq s; omega
        have hes1 : (bs [s[j] + 1]).size = 1 := rfl
        have hu0 : (0 : Int) ≤ (s[j].toNat : Int) := by omega
        go_wp2
        go_region
        go_wp2
        go_ret
        exact ⟨by rw [HF.out, HX.out]; rfl, ((Below.refl _ w).alloc (Nat.le_refl _) _).drew⟩
      · as_aux_lemma =>
        have hdb : decide ((s[j].toNat : Int) < 255) = false := decide_eq_false (by omega)
        have HF : Hid (R = nextF j s.data.toList) := by
          show _ = _
          rw [hR.out, nextF, HG.out, if_neg (fun h => hb (UInt8.lt_iff_toNat_lt.1 h))]
        go_wp2
        go_round
        case rel => exact ⟨j, rfl, by omega, HF⟩
        case measure => simp [intOf]
    · as_aux_lemma =>
      obtain rfl : k = 0 := by omega
      have HF : Hid (R = [0]) := hR
      go_wp2
      go_ret
      exact ⟨by rw [HF.out]; rfl, Below.refl _ _⟩

set_option maxRecDepth 1000000 in
set_option maxHeartbeats 1000000 in
theorem refNext_any (s : ByteArray) (w : World) (hs : s.size ≤ 140737488355328) :
    Calls Tryd.prog 11 #[.string s] w fun e w' => e = .returned (.string (bs (nextL s.data.toList))) ∧ Below w.heap.size w w' := by
  have HR : Hid (nextL s.data.toList = nextF s.size s.data.toList) := by show _ = _; unfold nextL; rw [Lib.size_eq]
  generalize nextL s.data.toList = R at *
  go_enter Tryd.func11, Tryd.ntmps11
  go_wp2_with (fail)
  go_loop [0] (fun v0 => ∃ (r : ByteArray), v0 = .string r ∧ r.size ≤ s.size ∧ Hid (R = nextF r.size r.data.toList)) (fun v0 => strLen v0)
  case atStart => exact ⟨s, rfl, by omega, HR⟩
  case round =>
    obtain ⟨r, rfl, hk, hR⟩ := hrel
    by_cases h0 : 0 < r.size
    · obtain ⟨j, hjz⟩ : ∃ j, r.size = j + 1 := ⟨r.size - 1, by omega⟩
      have hj : j < r.size := by omega
      have HG := Lib.hid (getD_at r j hj)
      have hjj : (r.size : Int) - 1 = (j : Int) := by omega
      have hd : decide (0 < (r.size : Int)) = true := decide_eq_true (by omega)
      have hj0 : (j : Int) < (r.size : Int) := by omega
      have hj1 : (r.size : Int) ≤ 140737488355328 := by omega
      rw [hjz] at hR
      have Hjz := Lib.hid hjz
      clear hjz
      by_cases hb : r[j].toNat < 255
      · as_aux_lemma =>
        have hdb : ((r[j].toNat : Int) == 255) = false := by rw [beq_eq_false_iff_ne]; omega
        have HF : Hid (R = r.data.toList.take j ++ [r[j] + 1]) := by
          show _ = _
          rw [hR.out, nextF, HG.out, if_pos (UInt8.lt_iff_toNat_lt.2 hb)]
        have hcv := conv1 w r[j] hb _ rfl
        have HX : Hid (bs (r.data.toList.take j ++ [r[j] + 1]) = r.extract 0 j ++ bs [r[j] + 1]) := by
          show _ = _
          rw [← bs_append, Lib.extract_eq]; rfl
        have hes : (r.extract 0 j).size + 1 ≤ 9223372036854775807 := by rw [Lib.size_eq, Lib.extract_data]; simp; have := Lib.size_eq r; omega
        have hes1 : (bs [r[j] + 1]).size = 1 := rfl
        have hu0 : (0 : Int) ≤ (r[j].toNat : Int) := by omega
        have hne := notEmpty r h0
        go_wp2
        go_region
        go_wp2
        go_ret
        exact ⟨by rw [HF.out, HX.out]; rfl, ((Below.refl _ w).alloc (Nat.le_refl _) _).drew⟩
      · as_aux_lemma =>
        have hdb : ((r[j].toNat : Int) == 255) = true := by have := UInt8.toNat_lt r[j]; rw [beq_iff_eq]; omega
        have Hes : Hid ((r.extract 0 j).size = j) := by show _ = _; rw [Lib.size_eq, Lib.extract_data]; simp; have := Lib.size_eq r; omega
        have HF : Hid (R = nextF j (r.extract 0 j).data.toList) := by
          show _ = _
          rw [hR.out, nextF, HG.out, if_neg (fun h => hb (UInt8.lt_iff_toNat_lt.1 h)), Lib.extract_data, List.drop_zero, Nat.sub_zero, nextF_take j j _ (Nat.le_refl _)]
        go_wp2
        go_round
        case rel => exact ⟨r.extract 0 j, rfl, by rw [Hes.out]; omega, by show _ = _; rw [Hes.out]; exact HF.out⟩
        case measure => show (r.extract 0 j).size < r.size; rw [Hes.out]; omega
    · as_aux_lemma =>
      have hz : r.size = 0 := by omega
      have hr := isNone r hz
      subst hr
      have HF : Hid (R = [0]) := hR
      go_wp2
      go_ret
      exact ⟨by rw [HF.out]; rfl, Below.refl _ _⟩
end Go.Proofs.YtmiloedhhnknpaaDoor
