/- The walks of In and Key, the program's and the reference's. Conditions: as each theorem says. -/
import Derived.Test.YtmiloedhhnknpaaDoorNamN
import Derived.Lib.IndexLaws
namespace Go.Proofs.YtmiloedhhnknpaaDoor
open Go.RowKit

def inL (k f e : List UInt8) : Bool := if e.isEmpty = true then k == f else if (e == [0]) = true then !Op.bytesLess k f else if Op.bytesLess k f = true then false else Op.bytesLess k e
set_option maxRecDepth 1000000 in
theorem in_any (k f e : ByteArray) (w : World) :
    Calls Tryd.prog 14 #[.string k, .string f, .string e] w fun r w' => r = .returned (.bool (inL k.toList f.toList e.toList)) ∧ w = w' := by
  have HI : Hid (inL k.toList f.toList e.toList = if e.toList.isEmpty = true then k.toList == f.toList else if (e.toList == [0]) = true then !Op.bytesLess k.toList f.toList else if Op.bytesLess k.toList f.toList = true then false else Op.bytesLess k.toList e.toList) := by show _ = _; rfl
  generalize inL k.toList f.toList e.toList = R at *
  go_enter Tryd.func14, Tryd.ntmps14
  go_wp2
  all_goals (go_ret; refine ⟨?_, rfl⟩; rw [HI.out]; simp_all)
set_option maxRecDepth 1000000 in
theorem refIn_any (k f e : ByteArray) (w : World) :
    Calls Tryd.prog 15 #[.string k, .string f, .string e] w fun r w' => r = .returned (.bool (inL k.toList f.toList e.toList)) ∧ w = w' := by
  have HI : Hid (inL k.toList f.toList e.toList = if e.toList.isEmpty = true then k.toList == f.toList else if (e.toList == [0]) = true then !Op.bytesLess k.toList f.toList else if Op.bytesLess k.toList f.toList = true then false else Op.bytesLess k.toList e.toList) := by show _ = _; rfl
  generalize inL k.toList f.toList e.toList = R at *
  go_enter Tryd.func15, Tryd.ntmps15
  go_wp2
  all_goals (go_ret; refine ⟨?_, rfl⟩; rw [HI.out]; simp_all)

/-- What is wrong with a key: 30, 31; 0: nothing. -/
def keyE (l : List UInt8) : Nat := if runesI l < 1 then 30 else if 0 ∈ l then 30 else if 64 < l.length then 31 else 0
theorem keyE_a (l : List UInt8) (h : runesI l < 1) : keyE l = 30 := by unfold keyE; rw [if_pos h]
theorem keyE_b (l : List UInt8) (h : ¬ runesI l < 1) (h0 : (0 : UInt8) ∈ l) : keyE l = 30 := by unfold keyE; rw [if_neg h, if_pos h0]
theorem keyE_c (l : List UInt8) (h : ¬ runesI l < 1) (h0 : ¬ (0 : UInt8) ∈ l) (h1 : 64 < l.length) : keyE l = 31 := by unfold keyE; rw [if_neg h, if_neg h0, if_pos h1]
theorem keyE_d (l : List UInt8) (h : ¬ runesI l < 1) (h0 : ¬ (0 : UInt8) ∈ l) (h1 : ¬ 64 < l.length) : keyE l = 0 := by unfold keyE; rw [if_neg h, if_neg h0, if_neg h1]
theorem index0_in (l : List UInt8) (h : (0 : UInt8) ∈ l) : 0 ≤ Lib.indexByte l 0 := by
  have h1 := Lib.indexByte_ge l 0
  refine Decidable.byContradiction fun hn => ?_
  obtain ⟨k, hk⟩ := List.mem_iff_getElem?.1 h
  exact Lib.indexByte_none (l := l) (c := 0) (by omega) k hk
theorem index0_out (l : List UInt8) (h : ¬ (0 : UInt8) ∈ l) : Lib.indexByte l 0 = -1 := by
  have h1 := Lib.indexByte_ge l 0
  refine Decidable.byContradiction fun hn => ?_
  have := Lib.indexByte_some (l := l) (c := 0) (o := (Lib.indexByte l 0).toNat) (by omega)
  exact h (List.mem_iff_getElem?.2 ⟨_, this.1⟩)
set_option maxRecDepth 1000000 in
theorem key_any (s : ByteArray) (w : World) (hs : s.size ≤ 140737488355328) :
    Calls Tryd.prog 18 #[.string s] w fun r w' => r = .returned (.int .i64 (keyE s.data.toList : Int)) ∧ Below w.heap.size w w' := by
  have HRu := Lib.hid (fun W => runes_any s W (by omega))
  have hz := Lib.size_eq s
  by_cases h1 : runesI s.data.toList < 1
  · as_aux_lemma =>
    rw [keyE_a _ h1]
    generalize runesI s.data.toList = R at *
    have d1 : decide (R < 1) = true := decide_eq_true h1
    clear hz
    go_enter Tryd.func18, Tryd.ntmps18
    go_wp2_with (fail)
    refine (HRu.out _).mono ?_
    rintro e w1 ⟨rfl, hb⟩
    go_wp2
    go_ret
    exact ⟨rfl, hb⟩
  · have HI := Lib.hid (fun W => Tryd.strings_IndexByte s 0 W)
    by_cases h0 : (0 : UInt8) ∈ s.data.toList
    · as_aux_lemma =>
      rw [keyE_b _ h1 h0]
      have hi : 0 ≤ Lib.indexByte s.data.toList (0 : Int).toNat.toUInt8 := index0_in _ h0
      generalize Lib.indexByte s.data.toList (0 : Int).toNat.toUInt8 = I at *
      generalize runesI s.data.toList = R at *
      have d1 : decide (R < 1) = false := decide_eq_false h1
      have d2 : decide (0 ≤ I) = true := decide_eq_true hi
      clear hz h0
      go_enter Tryd.func18, Tryd.ntmps18
      go_wp2_with (fail)
      refine (HRu.out _).mono ?_
      rintro e w1 ⟨rfl, hb⟩
      go_wp2_with (go_at_call 29; refine (HI.out _).mono ?_; rintro e w' ⟨rfl, rfl⟩)
      go_ret
      exact ⟨rfl, hb⟩
    · have hi : Lib.indexByte s.data.toList (0 : Int).toNat.toUInt8 = -1 := index0_out _ h0
      rw [hi] at HI
      by_cases h2 : 64 < s.data.toList.length
      · as_aux_lemma =>
        rw [keyE_c _ h1 h0 h2]
        generalize runesI s.data.toList = R at *
        have d1 : decide (R < 1) = false := decide_eq_false h1
        have d3 : decide (64 < (s.size : Int)) = true := decide_eq_true (by omega)
        clear hz h0 hi
        go_enter Tryd.func18, Tryd.ntmps18
        go_wp2_with (fail)
        refine (HRu.out _).mono ?_
        rintro e w1 ⟨rfl, hb⟩
        go_wp2_with (go_at_call 29; refine (HI.out _).mono ?_; rintro e w' ⟨rfl, rfl⟩)
        go_ret
        exact ⟨rfl, hb⟩
      · as_aux_lemma =>
        rw [keyE_d _ h1 h0 h2]
        generalize runesI s.data.toList = R at *
        have d1 : decide (R < 1) = false := decide_eq_false h1
        have d3 : decide (64 < (s.size : Int)) = false := decide_eq_false (by omega)
        clear hz h0 hi
        go_enter Tryd.func18, Tryd.ntmps18
        go_wp2_with (fail)
        refine (HRu.out _).mono ?_
        rintro e w1 ⟨rfl, hb⟩
        go_wp2_with (go_at_call 29; refine (HI.out _).mono ?_; rintro e w' ⟨rfl, rfl⟩)
        go_ret
        exact ⟨rfl, hb⟩
set_option maxRecDepth 1000000 in
theorem refKey_any (s : ByteArray) (w : World) (hs : s.size ≤ 140737488355328) :
    Calls Tryd.prog 19 #[.string s] w fun r w' => r = .returned (.int .i64 (keyE s.data.toList : Int)) ∧ Below w.heap.size w w' := by
  have HRu := Lib.hid (fun W => refRunes_any s W (by omega))
  have hz := Lib.size_eq s
  by_cases h1 : runesI s.data.toList < 1
  · as_aux_lemma =>
    rw [keyE_a _ h1]
    generalize runesI s.data.toList = R at *
    have d1 : decide (R < 1) = true := decide_eq_true h1
    clear hz
    go_enter Tryd.func19, Tryd.ntmps19
    go_wp2_with (fail)
    refine (HRu.out _).mono ?_
    rintro e w1 ⟨rfl, hb⟩
    go_wp2
    go_ret
    exact ⟨rfl, hb⟩
  · have HB := Lib.hid (keyE_b s.data.toList h1)
    have HC := Lib.hid (keyE_c s.data.toList h1)
    have HD := Lib.hid (keyE_d s.data.toList h1)
    generalize keyE s.data.toList = E at *
    generalize runesI s.data.toList = R at *
    have d1 : decide (R < 1) = false := decide_eq_false h1
    have Hz := Lib.hid hz
    clear hz
    go_enter Tryd.func19, Tryd.ntmps19
    go_wp2_with (fail)
    refine (HRu.out _).mono ?_
    rintro e w1 ⟨rfl, hb⟩
    go_wp2_with (fail)
    go_loop [3] (fun v3 => ∃ (k : Nat), v3 = .int .i64 (k : Int) ∧ k ≤ s.size ∧ Hid (¬ (0 : UInt8) ∈ s.data.toList.take k)) (fun v3 => s.size - (intOf v3).toNat)
    case atStart => exact ⟨0, rfl, by omega, by show ¬ _; simp⟩
    case round =>
      obtain ⟨k, rfl, hk, hno⟩ := hrel
      by_cases hp : k < s.size
      · have HG := Lib.hid (getD_at s k hp)
        have hp' : (k : Int) < (s.size : Int) := by omega
        have HT : Hid (s.data.toList.take (k + 1) = s.data.toList.take k ++ [s[k]]) := by
          show _ = _
          have hl : k < s.data.toList.length := by rw [← Hz.out]; exact hp
          rw [List.take_succ_eq_append_getElem hl]
          rfl
        by_cases hb0 : s[k].toNat = 0
        · as_aux_lemma =>
          have hd : ((s[k].toNat : Int) == 0) = true := by rw [beq_iff_eq]; omega
          have HE : Hid (E = 30) := by
            refine HB.out (List.mem_of_mem_take (i := k + 1) ?_)
            rw [HT.out]
            have : s[k] = 0 := UInt8.toNat_inj.1 (by simpa using hb0)
            rw [this]; simp
          clear hb0
          go_wp2
          go_ret
          exact ⟨by rw [HE.out]; rfl, hb⟩
        · as_aux_lemma =>
          have hd : ((s[k].toNat : Int) == 0) = false := by rw [beq_eq_false_iff_ne]; omega
          have HN : Hid (¬ (0 : UInt8) ∈ s.data.toList.take (k + 1)) := by
            show ¬ _
            rw [HT.out, List.mem_append]
            rintro (h | h)
            · exact hno.out h
            · have : (0 : UInt8) = s[k] := by simpa using h
              exact hb0 (by rw [← this]; rfl)
          clear hb0
          go_wp2
          go_round
          case rel => exact ⟨k + 1, by go_num, by omega, HN⟩
          case measure => simp [intOf]; omega
      · obtain rfl : k = s.size := by omega
        have HN : Hid (¬ (0 : UInt8) ∈ s.data.toList) := by
          have := hno.out
          rw [Hz.out, List.take_length] at this
          exact this
        by_cases h2 : 64 < s.size
        · as_aux_lemma =>
          have HE : Hid (E = 31) := HC.out HN.out (by rw [← Hz.out]; exact h2)
          have d3 : decide (64 < (s.size : Int)) = true := decide_eq_true (by omega)
          go_wp2
          go_ret
          exact ⟨by rw [HE.out]; rfl, hb⟩
        · as_aux_lemma =>
          have HE : Hid (E = 0) := HD.out HN.out (by rw [← Hz.out]; exact h2)
          have d3 : decide (64 < (s.size : Int)) = false := decide_eq_false (by omega)
          go_wp2
          go_ret
          exact ⟨by rw [HE.out]; rfl, hb⟩
end Go.Proofs.YtmiloedhhnknpaaDoor
