/- The walks of names' wrong and Runes. Conditions: as each theorem says. -/
import Derived.Test.YtmiloedhhnknpaaDoorNamB
import Derived.Test.YtmiloedhhnknpaaDoorNamP
namespace Go.Proofs.YtmiloedhhnknpaaDoor
open Go.RowKit

theorem bs_data' (l : List UInt8) : (bs l).data = l.toArray := rfl
theorem extract_drop (s : ByteArray) (i : Nat) : (s.extract i s.size).data.toList = s.data.toList.drop i := by
  rw [Lib.extract_eq]
  show ((s.data.toList.drop i).take (s.size - i)).toArray.toList = _
  rw [List.take_of_length_le (by rw [List.length_drop, Lib.size_eq]; omega)]
set_option maxRecDepth 100000 in
theorem wrong_any (s : ByteArray) (i : Nat) (w : World) (hi : i < s.size) (hs : s.size ≤ 9223372036854775807) :
    Calls Tryd.prog 23 #[.string s, .int .i64 (i : Int), .int .i32 ((Utf8.decode s i).1 : Int)] w fun e w' => e = .returned (.bool (badL (s.data.toList.drop i))) ∧ w' = w := by
  have hd : Utf8.decode s i = Lib.decodeL (s.data.toList.drop i) := (Lib.decodeL_drop s i).symm
  have Hb := Lib.hid (bad_iff (s.data.toList.drop i))
  have HP : Hid ([239, 191, 189].isPrefixOf (List.take (s.size - i) (List.drop i s.data.toList)) = decide ([239, 191, 189] <+: List.drop i s.data.toList)) := by
    show _ = _
    rw [List.take_of_length_le (by rw [List.length_drop, Lib.size_eq]; omega), Bool.eq_iff_iff, decide_eq_true_eq, List.isPrefixOf_iff_prefix]
  rw [hd]
  by_cases h : (Lib.decodeL (s.data.toList.drop i)).1 = 65533
  · as_aux_lemma =>
    rw [decide_eq_true h, Bool.true_and] at Hb
    rw [h]
    clear hd h
    go_enter Tryd.func23, Tryd.ntmps23
    go_wp2_with (go_at_call 35; refine (Tryd.strings_HasPrefix _ _ _).mono ?_; rintro e w' ⟨rfl, rfl⟩)
    go_ret
    refine ⟨?_, rfl⟩
    rw [Hb.out, ← HP.out]
    rfl
  · as_aux_lemma =>
    rw [decide_eq_false h, Bool.false_and] at Hb
    have h1 : (((Lib.decodeL (s.data.toList.drop i)).1 : Int) == 65533) = false := by rw [beq_eq_false_iff_ne]; omega
    generalize (Lib.decodeL (s.data.toList.drop i)).1 = r at *
    clear hd h
    go_enter Tryd.func23, Tryd.ntmps23
    go_wp2
    go_ret
    exact ⟨by rw [Hb.out]; rfl, rfl⟩

theorem drop_ne (s : ByteArray) (i : Nat) (h : i < s.size) : s.data.toList.drop i ≠ [] := by
  intro h0
  have := congrArg List.length h0
  have hz := Lib.size_eq s
  rw [List.length_drop, List.length_nil] at this
  omega
theorem drop_end (s : ByteArray) (i : Nat) (h : ¬ i < s.size) : s.data.toList.drop i = [] :=
  List.drop_eq_nil_of_le (by have := Lib.size_eq s; omega)
theorem decode_dl (s : ByteArray) (i : Nat) : Utf8.decode s i = Lib.decodeL (s.data.toList.drop i) := (Lib.decodeL_drop s i).symm
theorem decode_wd (s : ByteArray) (i : Nat) (h : i < s.size) : 1 ≤ (Utf8.decode s i).2 ∧ i + (Utf8.decode s i).2 ≤ s.size := by
  have := decodeL_le _ (drop_ne s i h)
  have hz := Lib.size_eq s
  rw [← decode_dl, List.length_drop] at this
  omega

set_option maxRecDepth 100000 in
set_option maxHeartbeats 1000000 in
theorem runes_any (s : ByteArray) (w : World) (hs : s.size ≤ 9223372036854775807) :
    Calls Tryd.prog 16 #[.string s] w fun e w' => e = .returned (.int .i64 (runesI s.data.toList)) ∧ Below w.heap.size w w' := by
  have HR : Hid (runesI s.data.toList = cntL s.size (s.data.toList.drop 0) 0) := by show _ = _; unfold runesI; rw [Lib.size_eq]; rfl
  generalize runesI s.data.toList = R at *
  go_enter Tryd.func16, Tryd.ntmps16
  go_wp2_with (fail)
  go_loopw [3] (fun v3 wr => ∃ (pos f : Nat) (n : Int), v3 = .int .i64 n ∧ wr.heap[w.heap.size]? = some (.stringIter s pos) ∧ Below w.heap.size w wr ∧ Hid (R = cntL f (s.data.toList.drop pos) n) ∧ s.size ≤ pos + f ∧ pos ≤ s.size ∧ 0 ≤ n ∧ n ≤ (pos : Int)) (fun _ wr => s.size - wr.iterPos w.heap.size)
  case atStart => exact ⟨0, s.size, 0, rfl, World.iter_heap w s 0, (Below.refl _ w).alloc (Nat.le_refl _) _, HR, by omega, by omega, by omega, by omega⟩
  case round =>
    obtain ⟨pos, f, n, rfl, hit, hbw, hR, hf, hps, hn0, hn1⟩ := hrel
    have hsz : w.heap.size < wr.heap.size := (Array.getElem?_eq_some_iff.1 hit).1
    by_cases hp : pos < s.size
    · have hnx : ∀ ty, (Instr.next (.pointer (some ⟨w.heap.size, 0, none⟩)) true ty).run Tryd.prog wr = _ := fun ty => Lib.run_next_any_at wr w.heap.size s pos ty hit hp
      obtain ⟨hw1, hw2⟩ := decode_wd s pos hp
      have hd1 := decode_le s pos
      have HI2 := Lib.hid (Lib.iterAt_heap wr w.heap.size s pos (pos + (Utf8.decode s pos).2) hit)
      have hbw2 := Lib.below_iterAt hbw (k := w.heap.size) (by omega) s (pos + (Utf8.decode s pos).2)
      have HD := Lib.hid (decode_dl s pos)
      have HN := Lib.hid (drop_ne s pos hp)
      obtain ⟨f', rfl⟩ : ∃ f', f = f' + 1 := ⟨f - 1, by omega⟩
      have HW := Lib.hid (fun W => wrong_any s pos W hp hs)
      by_cases hb : badL (s.data.toList.drop pos) = true
      · as_aux_lemma =>
        rw [hb] at HW
        have HF : Hid (R = -1) := by show _ = _; rw [hR.out, cntL_bad _ _ _ HN.out hb]
        clear hb
        go_wp2_with (go_at_call 23; refine (HW.out _).mono ?_; rintro e w' ⟨rfl, rfl⟩)
        go_ret
        exact ⟨by rw [HF.out]; rfl, hbw2⟩
      · as_aux_lemma =>
        have hb' : badL (s.data.toList.drop pos) = false := by simpa using hb
        rw [hb'] at HW
        have HF : Hid (R = cntL f' (s.data.toList.drop (pos + (Utf8.decode s pos).2)) (n + 1)) := by
          show _ = _
          rw [hR.out, cntL_step _ _ _ HN.out hb', HD.out, List.drop_drop]
        clear hb hb'
        go_wp2_with (go_at_call 23; refine (HW.out _).mono ?_; rintro e w' ⟨rfl, rfl⟩)
        go_roundw
        case rel => exact ⟨pos + (Utf8.decode s pos).2, f', n + 1, rfl, HI2.out, hbw2, HF, by omega, by omega, by omega, by omega⟩
        case measure =>
          simp only [World.iterPos, HI2.out, hit]
          omega
    · as_aux_lemma =>
      have hnx : ∀ ty, (Instr.next (.pointer (some ⟨w.heap.size, 0, none⟩)) true ty).run Tryd.prog wr = _ := fun ty => Lib.run_next_end_at wr w.heap.size s pos ty hit hp
      have HF : Hid (R = n) := by show _ = _; rw [hR.out, drop_end s pos hp, cntL_nil]
      go_wp2
      go_ret
      exact ⟨by rw [HF.out]; rfl, hbw⟩

def tailS (s : ByteArray) (k : Nat) : Bool := tailN s.size k (s.data.toList.getD k 0).toNat
theorem getD_at (s : ByteArray) (k : Nat) (h : k < s.size) : s.data.toList.getD k 0 = s[k] := by
  have h' : k < s.data.size := h
  show (s.data.toList[k]?).getD 0 = s.data[k]
  rw [Array.getElem?_toList, Array.getElem?_eq_getElem h']
  rfl
set_option maxRecDepth 100000 in
theorem tail_any (s : ByteArray) (k : Nat) (w : World) (hk : k ≤ 9) (hs : s.size ≤ 9223372036854775807) :
    Calls Tryd.prog 39 #[.string s, .int .i64 (k : Int)] w fun e w' => e = .returned (.bool (tailS s k)) ∧ w = w' := by
  have HT : Hid (tailS s k = decide (k < s.size ∧ 128 ≤ (s.data.toList.getD k 0).toNat ∧ (s.data.toList.getD k 0).toNat ≤ 191)) := rfl
  generalize tailS s k = T at *
  by_cases h : k < s.size
  · have hg := getD_at s k h
    rw [hg] at HT
    have hd : decide (k < s.size) = true := decide_eq_true h
    by_cases h1 : 128 ≤ s[k].toNat
    · have d1 : decide (128 ≤ (s[k].toNat : Int)) = true := by simp; omega
      by_cases h2 : s[k].toNat ≤ 191
      · as_aux_lemma =>
        have d2 : decide ((s[k].toNat : Int) ≤ 191) = true := by simp; omega
        rw [decide_eq_true (⟨h, h1, h2⟩ : k < s.size ∧ 128 ≤ s[k].toNat ∧ s[k].toNat ≤ 191)] at HT
        clear hg
        go_enter Tryd.func39, Tryd.ntmps39
        go_wp2
        go_ret
        exact ⟨by rw [HT.out]; rfl, rfl⟩
      · as_aux_lemma =>
        have d2 : decide ((s[k].toNat : Int) ≤ 191) = false := by simp; omega
        rw [decide_eq_false (fun hh => h2 hh.2.2)] at HT
        clear hg
        go_enter Tryd.func39, Tryd.ntmps39
        go_wp2
        go_ret
        exact ⟨by rw [HT.out]; rfl, rfl⟩
    · as_aux_lemma =>
      have d1 : decide (128 ≤ (s[k].toNat : Int)) = false := by simp; omega
      rw [decide_eq_false (fun hh => h1 hh.2.1)] at HT
      clear hg
      go_enter Tryd.func39, Tryd.ntmps39
      go_wp2
      go_ret
      exact ⟨by rw [HT.out]; rfl, rfl⟩
  · as_aux_lemma =>
    have hd : decide (k < s.size) = false := decide_eq_false h
    rw [decide_eq_false (fun hh => h hh.1)] at HT
    go_enter Tryd.func39, Tryd.ntmps39
    go_wp2
    go_ret
    exact ⟨by rw [HT.out]; rfl, rfl⟩
end Go.Proofs.YtmiloedhhnknpaaDoor
