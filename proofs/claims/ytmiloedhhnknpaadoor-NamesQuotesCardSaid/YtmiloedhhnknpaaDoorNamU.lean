/- strconv.ParseUint at base 16, of 8 or 21 bits. Conditions: as each theorem says. -/
import Derived.Test.YtmiloedhhnknpaaDoorNamZP
namespace Go.Proofs.YtmiloedhhnknpaaDoor
open Go.RowKit

/-- A digit's value; none: it is none. -/
def dOf (c : UInt8) : Option Nat := if 48 ≤ c.toNat ∧ c.toNat ≤ 57 then some (c.toNat - 48) else if 97 ≤ (c.toNat ||| 32) ∧ (c.toNat ||| 32) ≤ 122 then some ((c.toNat ||| 32) - 87) else none
/-- A number, and what is wrong (2: the syntax, 1: it is too great). -/
def puF (M : Nat) : List UInt8 → Nat → Nat × Nat
  | [], n => (n, 0)
  | c :: t, n => match dOf c with
    | none => (0, 2)
    | some d => if 16 ≤ d then (0, 2) else if M < 16 * n + d then (M, 1) else puF M t (16 * n + d)
def puL (M : Nat) (l : List UInt8) : Nat × Nat := if l = [] then (0, 2) else puF M l 0
def errV (k : Nat) : Value := if k = 0 then .nilIface else .iface 74 (.int .i64 (k : Int))
def PuSaid (p : Nat × Nat) (w : World) (e : Ending) (w' : World) : Prop := e = .returned (.tuple #[.int .u64 (p.1 : Int), errV p.2]) ∧ Below w.heap.size w w'
theorem or32 (c : Nat) (h : c < 256) : bits .or .u8 (c : Int) 32 = ((c ||| 32 : Nat) : Int) := u8_or_nat c 32 h (by omega)
theorem or32_lt (c : Nat) (h : c < 256) : c ||| 32 < 256 := Nat.or_lt_two_pow (n := 8) h (by omega)
theorem bytesWorld_below (w : World) (s : ByteArray) : Below w.heap.size w (Lib.bytesWorld w 5 s) :=
  ⟨rfl, rfl, rfl, by rw [Lib.bytesWorld_size]; omega, fun k hk => Lib.bytesWorld_at_old _ _ _ _ hk⟩
theorem puF_none (M : Nat) (c : UInt8) (t : List UInt8) (n : Nat) (h : dOf c = none) : puF M (c :: t) n = (0, 2) := by rw [puF, h]
theorem puF_big (M : Nat) (c : UInt8) (t : List UInt8) (n d : Nat) (h : dOf c = some d) (h1 : 16 ≤ d) : puF M (c :: t) n = (0, 2) := by rw [puF, h]; simp only; rw [if_pos h1]
theorem puF_range (M : Nat) (c : UInt8) (t : List UInt8) (n d : Nat) (h : dOf c = some d) (h1 : ¬ 16 ≤ d) (h2 : M < 16 * n + d) : puF M (c :: t) n = (M, 1) := by rw [puF, h]; simp only; rw [if_neg h1, if_pos h2]
theorem puF_on (M : Nat) (c : UInt8) (t : List UInt8) (n d : Nat) (h : dOf c = some d) (h1 : ¬ 16 ≤ d) (h2 : ¬ M < 16 * n + d) : puF M (c :: t) n = puF M t (16 * n + d) := by rw [puF, h]; simp only; rw [if_neg h1, if_neg h2]
theorem drop_at (s : ByteArray) (k : Nat) (h : k < s.size) : s.data.toList.drop k = s[k] :: s.data.toList.drop (k + 1) := by
  have hl : k < s.data.toList.length := by rw [← Lib.size_eq]; exact h
  rw [List.drop_eq_getElem_cons hl]
  rfl

set_option maxRecDepth 1000000 in
set_option maxHeartbeats 4000000 in
theorem puint8_any (s : ByteArray) (w : World) (hs : s.size ≤ 1000000) :
    Calls Tryd.prog 52 #[.string s, .int .i64 16, .int .i64 8] w fun e w' => PuSaid (puL 255 s.data.toList) w e w' := by
  by_cases h0 : s.size = 0
  · as_aux_lemma =>
    have hz := isNone s h0
    subst hz
    clear h0
    go_enter Tryd.func52, Tryd.ntmps52
    go_wp2
    go_ret2
    exact ⟨rfl, Below.refl _ _⟩
  have hne := notEmpty s (by omega)
  have HR : Hid (puL 255 s.data.toList = puF 255 (s.data.toList.drop 0) 0) := by
    show _ = _
    unfold puL
    rw [if_neg, List.drop_zero]
    intro h
    apply h0
    rw [Lib.size_eq, h]; rfl
  generalize puL 255 s.data.toList = R at *
  have kc := fun w => Lib.run_convert_string_bytes (P := Tryd.prog) w 9 32 5 s Tryd.underlying9 Tryd.underlying32 Tryd.underlying5
  have hcells := fun j hj => Lib.bytesWorld_cell w 5 s j hj
  have hb := bytesWorld_below w s
  clear h0
  go_enter Tryd.func52, Tryd.ntmps52
  go_wp2_with (fail)
  generalize grownCap w s.size 0 5 = cap at *
  generalize Lib.bytesWorld w 5 s = W at *
  clear kc
  go_loop [12, 13, 101] (fun v12 v13 v101 => ∃ (k n : Nat), v12 = .bool false ∧ v13 = .int .u64 (n : Int) ∧ v101 = .int .i64 (k : Int) ∧ k ≤ s.size ∧ n ≤ 255 ∧ Hid (R = puF 255 (s.data.toList.drop k) n)) (fun _ _ v101 => s.size - (intOf v101).toNat)
  case atStart => exact ⟨0, 0, rfl, rfl, rfl, by omega, by omega, HR⟩
  case round =>
    obtain ⟨k, n, rfl, rfl, rfl, hk, hn, hR⟩ := hrel
    by_cases hp : k < s.size
    · have hc := hcells k hp
      rw [getD_at s k hp] at hc
      have Hc := Lib.hid hcells
      have HD := Lib.hid (drop_at s k hp)
      have hp' : (k : Int) < (s.size : Int) := by omega
      clear hcells
      generalize hcc : s[k] = c at *
      have hcl := UInt8.toNat_lt c
      have hcl' : (c.toNat : Int) < 256 := by omega
      clear hcc
      have HN : Hid (R = puF 255 (c :: s.data.toList.drop (k + 1)) n) := by show _ = _; rw [hR.out, HD.out]
      have n1 : decide (1152921504606846976 ≤ (n : Int)) = false := decide_eq_false (by omega)
      by_cases hd : 48 ≤ c.toNat ∧ c.toNat ≤ 57
      · have dO := Lib.hid (show dOf c = some (c.toNat - 48) by unfold dOf; rw [if_pos hd])
        have t1 : decide (48 ≤ (c.toNat : Int)) = true := decide_eq_true (by omega)
        have t2 : decide ((c.toNat : Int) ≤ 57) = true := decide_eq_true (by omega)
        have t0 : ((c.toNat : Int) == 95) = false := by rw [beq_eq_false_iff_ne]; omega
        by_cases h2 : 255 < 16 * n + (c.toNat - 48)
        · as_aux_lemma =>
          have HF := Lib.hid (puF_range 255 c (s.data.toList.drop (k + 1)) n _ dO.out (by omega) h2)
          have q1 : decide ((n : Int) * 16 + ((c.toNat : Int) - 48) < (n : Int) * 16) = false := decide_eq_false (by omega)
          have q2 : decide (255 < (n : Int) * 16 + ((c.toNat : Int) - 48)) = true := decide_eq_true (by omega)
          go_wp2
          go_ret2
          exact ⟨by rw [HN.out, HF.out]; rfl, hb⟩
        · as_aux_lemma =>
          have HF := Lib.hid (puF_on 255 c (s.data.toList.drop (k + 1)) n _ dO.out (by omega) h2)
          go_wp2
          go_round
          case rel => exact ⟨k + 1, 16 * n + (c.toNat - 48), rfl, congrArg _ (by omega), by go_num, by omega, by omega, by show _ = _; rw [HN.out, HF.out]⟩
          case measure => simp [intOf]; omega
      · by_cases h95 : c.toNat = 95
        · as_aux_lemma =>
          have HL5 : Hid (∀ X, Calls Tryd.prog 59 #[.int .u8 95] X fun e w' => e = .returned (.int .u8 127) ∧ w' = X) := fun X => by
            have h := Tryd.internal_strconv_lower 95 X
            rw [show bits .or .u8 95 32 = 127 by decide +kernel] at h
            exact h
          have dO2 : Hid (dOf c = none) := by show _ = _; unfold dOf; rw [h95]; decide
          have HF := Lib.hid (puF_none 255 c (s.data.toList.drop (k + 1)) n dO2.out)
          have h95' : (c.toNat : Int) = 95 := by omega
          clear h95 hd hcl hcl'
          go_wp2_with (go_at_call 59; refine (HL5.out _).mono ?_; rintro e w' ⟨rfl, rfl⟩)
          go_ret2
          exact ⟨by rw [HN.out, HF.out]; rfl, hb⟩
        have t0 : ((c.toNat : Int) == 95) = false := by rw [beq_eq_false_iff_ne]; omega
        have hl := or32_lt c.toNat (by omega)
        have HLw := Lib.hid (fun X => Tryd.internal_strconv_lower (c.toNat : Int) X)
        rw [or32 c.toNat (by omega)] at HLw
        have dO : Hid (dOf c = if 97 ≤ (c.toNat ||| 32) ∧ (c.toNat ||| 32) ≤ 122 then some ((c.toNat ||| 32) - 87) else none) := by show _ = _; unfold dOf; rw [if_neg hd]
        generalize c.toNat ||| 32 = L at *
        have hL : (L : Int) < 256 := by omega
        clear h95
        by_cases h5 : c.toNat < 48
        · have t1 : decide (48 ≤ (c.toNat : Int)) = false := decide_eq_false (by omega)
          by_cases h1 : 97 ≤ L ∧ L ≤ 122
          · have dO2 : Hid (dOf c = some (L - 87)) := by show _ = _; rw [dO.out, if_pos h1]
            have t3 : decide (97 ≤ (L : Int)) = true := decide_eq_true (by omega)
            have t4 : decide ((L : Int) ≤ 122) = true := decide_eq_true (by omega)
            by_cases h3 : 16 ≤ L - 87
            · as_aux_lemma =>
              have HF := Lib.hid (puF_big 255 c (s.data.toList.drop (k + 1)) n _ dO2.out h3)
              have t5 : decide (16 ≤ (L : Int) - 97 + 10) = true := decide_eq_true (by omega)
              go_wp2_with (go_at_call 59; refine (HLw.out _).mono ?_; rintro e w' ⟨rfl, rfl⟩)
              go_ret2
              exact ⟨by rw [HN.out, HF.out]; rfl, hb⟩
            have t5 : decide (16 ≤ (L : Int) - 97 + 10) = false := decide_eq_false (by omega)
            by_cases h2 : 255 < 16 * n + (L - 87)
            · as_aux_lemma =>
              have HF := Lib.hid (puF_range 255 c (s.data.toList.drop (k + 1)) n _ dO2.out h3 h2)
              have q1 : decide ((n : Int) * 16 + ((L : Int) - 97 + 10) < (n : Int) * 16) = false := decide_eq_false (by omega)
              have q2 : decide (255 < (n : Int) * 16 + ((L : Int) - 97 + 10)) = true := decide_eq_true (by omega)
              go_wp2_with (go_at_call 59; refine (HLw.out _).mono ?_; rintro e w' ⟨rfl, rfl⟩)
              go_ret2
              exact ⟨by rw [HN.out, HF.out]; rfl, hb⟩
            · as_aux_lemma =>
              have HF := Lib.hid (puF_on 255 c (s.data.toList.drop (k + 1)) n _ dO2.out h3 h2)
              go_wp2_with (go_at_call 59; refine (HLw.out _).mono ?_; rintro e w' ⟨rfl, rfl⟩)
              go_round
              case rel => exact ⟨k + 1, 16 * n + (L - 87), rfl, congrArg _ (by omega), by go_num, by omega, by omega, by show _ = _; rw [HN.out, HF.out]⟩
              case measure => simp [intOf]; omega
          · have dO2 : Hid (dOf c = none) := by show _ = _; rw [dO.out, if_neg h1]
            have HF := Lib.hid (puF_none 255 c (s.data.toList.drop (k + 1)) n dO2.out)
            by_cases h4 : 97 ≤ L
            · as_aux_lemma =>
              have t3 : decide (97 ≤ (L : Int)) = true := decide_eq_true (by omega)
              have t4 : decide ((L : Int) ≤ 122) = false := decide_eq_false (by omega)
              go_wp2_with (go_at_call 59; refine (HLw.out _).mono ?_; rintro e w' ⟨rfl, rfl⟩)
              go_ret2
              exact ⟨by rw [HN.out, HF.out]; rfl, hb⟩
            · as_aux_lemma =>
              have t3 : decide (97 ≤ (L : Int)) = false := decide_eq_false (by omega)
              go_wp2_with (go_at_call 59; refine (HLw.out _).mono ?_; rintro e w' ⟨rfl, rfl⟩)
              go_ret2
              exact ⟨by rw [HN.out, HF.out]; rfl, hb⟩
        · have h6 : 57 < c.toNat := by omega
          have t1 : decide (48 ≤ (c.toNat : Int)) = true := decide_eq_true (by omega)
          have t2 : decide ((c.toNat : Int) ≤ 57) = false := decide_eq_false (by omega)
          by_cases h1 : 97 ≤ L ∧ L ≤ 122
          · have dO2 : Hid (dOf c = some (L - 87)) := by show _ = _; rw [dO.out, if_pos h1]
            have t3 : decide (97 ≤ (L : Int)) = true := decide_eq_true (by omega)
            have t4 : decide ((L : Int) ≤ 122) = true := decide_eq_true (by omega)
            by_cases h3 : 16 ≤ L - 87
            · as_aux_lemma =>
              have HF := Lib.hid (puF_big 255 c (s.data.toList.drop (k + 1)) n _ dO2.out h3)
              have t5 : decide (16 ≤ (L : Int) - 97 + 10) = true := decide_eq_true (by omega)
              go_wp2_with (go_at_call 59; refine (HLw.out _).mono ?_; rintro e w' ⟨rfl, rfl⟩)
              go_ret2
              exact ⟨by rw [HN.out, HF.out]; rfl, hb⟩
            have t5 : decide (16 ≤ (L : Int) - 97 + 10) = false := decide_eq_false (by omega)
            by_cases h2 : 255 < 16 * n + (L - 87)
            · as_aux_lemma =>
              have HF := Lib.hid (puF_range 255 c (s.data.toList.drop (k + 1)) n _ dO2.out h3 h2)
              have q1 : decide ((n : Int) * 16 + ((L : Int) - 97 + 10) < (n : Int) * 16) = false := decide_eq_false (by omega)
              have q2 : decide (255 < (n : Int) * 16 + ((L : Int) - 97 + 10)) = true := decide_eq_true (by omega)
              go_wp2_with (go_at_call 59; refine (HLw.out _).mono ?_; rintro e w' ⟨rfl, rfl⟩)
              go_ret2
              exact ⟨by rw [HN.out, HF.out]; rfl, hb⟩
            · as_aux_lemma =>
              have HF := Lib.hid (puF_on 255 c (s.data.toList.drop (k + 1)) n _ dO2.out h3 h2)
              go_wp2_with (go_at_call 59; refine (HLw.out _).mono ?_; rintro e w' ⟨rfl, rfl⟩)
              go_round
              case rel => exact ⟨k + 1, 16 * n + (L - 87), rfl, congrArg _ (by omega), by go_num, by omega, by omega, by show _ = _; rw [HN.out, HF.out]⟩
              case measure => simp [intOf]; omega
          · have dO2 : Hid (dOf c = none) := by show _ = _; rw [dO.out, if_neg h1]
            have HF := Lib.hid (puF_none 255 c (s.data.toList.drop (k + 1)) n dO2.out)
            by_cases h4 : 97 ≤ L
            · as_aux_lemma =>
              have t3 : decide (97 ≤ (L : Int)) = true := decide_eq_true (by omega)
              have t4 : decide ((L : Int) ≤ 122) = false := decide_eq_false (by omega)
              go_wp2_with (go_at_call 59; refine (HLw.out _).mono ?_; rintro e w' ⟨rfl, rfl⟩)
              go_ret2
              exact ⟨by rw [HN.out, HF.out]; rfl, hb⟩
            · as_aux_lemma =>
              have t3 : decide (97 ≤ (L : Int)) = false := decide_eq_false (by omega)
              go_wp2_with (go_at_call 59; refine (HLw.out _).mono ?_; rintro e w' ⟨rfl, rfl⟩)
              go_ret2
              exact ⟨by rw [HN.out, HF.out]; rfl, hb⟩
    · as_aux_lemma =>
      have HF : Hid (R = (n, 0)) := by show _ = _; rw [hR.out, drop_end s k hp]; rfl
      go_wp2
      go_ret2
      exact ⟨by rw [HF.out]; rfl, hb⟩

set_option maxRecDepth 1000000 in
set_option maxHeartbeats 4000000 in
theorem puint21_any (s : ByteArray) (w : World) (hs : s.size ≤ 1000000) :
    Calls Tryd.prog 52 #[.string s, .int .i64 16, .int .i64 21] w fun e w' => PuSaid (puL 2097151 s.data.toList) w e w' := by
  by_cases h0 : s.size = 0
  · as_aux_lemma =>
    have hz := isNone s h0
    subst hz
    clear h0
    go_enter Tryd.func52, Tryd.ntmps52
    go_wp2
    go_ret2
    exact ⟨rfl, Below.refl _ _⟩
  have hne := notEmpty s (by omega)
  have HR : Hid (puL 2097151 s.data.toList = puF 2097151 (s.data.toList.drop 0) 0) := by
    show _ = _
    unfold puL
    rw [if_neg, List.drop_zero]
    intro h
    apply h0
    rw [Lib.size_eq, h]; rfl
  generalize puL 2097151 s.data.toList = R at *
  have kc := fun w => Lib.run_convert_string_bytes (P := Tryd.prog) w 9 32 5 s Tryd.underlying9 Tryd.underlying32 Tryd.underlying5
  have hcells := fun j hj => Lib.bytesWorld_cell w 5 s j hj
  have hb := bytesWorld_below w s
  clear h0
  go_enter Tryd.func52, Tryd.ntmps52
  go_wp2_with (fail)
  generalize grownCap w s.size 0 5 = cap at *
  generalize Lib.bytesWorld w 5 s = W at *
  clear kc
  go_loop [12, 13, 101] (fun v12 v13 v101 => ∃ (k n : Nat), v12 = .bool false ∧ v13 = .int .u64 (n : Int) ∧ v101 = .int .i64 (k : Int) ∧ k ≤ s.size ∧ n ≤ 2097151 ∧ Hid (R = puF 2097151 (s.data.toList.drop k) n)) (fun _ _ v101 => s.size - (intOf v101).toNat)
  case atStart => exact ⟨0, 0, rfl, rfl, rfl, by omega, by omega, HR⟩
  case round =>
    obtain ⟨k, n, rfl, rfl, rfl, hk, hn, hR⟩ := hrel
    by_cases hp : k < s.size
    · have hc := hcells k hp
      rw [getD_at s k hp] at hc
      have Hc := Lib.hid hcells
      have HD := Lib.hid (drop_at s k hp)
      have hp' : (k : Int) < (s.size : Int) := by omega
      clear hcells
      generalize hcc : s[k] = c at *
      have hcl := UInt8.toNat_lt c
      have hcl' : (c.toNat : Int) < 256 := by omega
      clear hcc
      have HN : Hid (R = puF 2097151 (c :: s.data.toList.drop (k + 1)) n) := by show _ = _; rw [hR.out, HD.out]
      have n1 : decide (1152921504606846976 ≤ (n : Int)) = false := decide_eq_false (by omega)
      by_cases hd : 48 ≤ c.toNat ∧ c.toNat ≤ 57
      · have dO := Lib.hid (show dOf c = some (c.toNat - 48) by unfold dOf; rw [if_pos hd])
        have t1 : decide (48 ≤ (c.toNat : Int)) = true := decide_eq_true (by omega)
        have t2 : decide ((c.toNat : Int) ≤ 57) = true := decide_eq_true (by omega)
        have t0 : ((c.toNat : Int) == 95) = false := by rw [beq_eq_false_iff_ne]; omega
        by_cases h2 : 2097151 < 16 * n + (c.toNat - 48)
        · as_aux_lemma =>
          have HF := Lib.hid (puF_range 2097151 c (s.data.toList.drop (k + 1)) n _ dO.out (by omega) h2)
          have q1 : decide ((n : Int) * 16 + ((c.toNat : Int) - 48) < (n : Int) * 16) = false := decide_eq_false (by omega)
          have q2 : decide (2097151 < (n : Int) * 16 + ((c.toNat : Int) - 48)) = true := decide_eq_true (by omega)
          go_wp2
          go_ret2
          exact ⟨by rw [HN.out, HF.out]; rfl, hb⟩
        · as_aux_lemma =>
          have HF := Lib.hid (puF_on 2097151 c (s.data.toList.drop (k + 1)) n _ dO.out (by omega) h2)
          go_wp2
          go_round
          case rel => exact ⟨k + 1, 16 * n + (c.toNat - 48), rfl, congrArg _ (by omega), by go_num, by omega, by omega, by show _ = _; rw [HN.out, HF.out]⟩
          case measure => simp [intOf]; omega
      · by_cases h95 : c.toNat = 95
        · as_aux_lemma =>
          have HL5 : Hid (∀ X, Calls Tryd.prog 59 #[.int .u8 95] X fun e w' => e = .returned (.int .u8 127) ∧ w' = X) := fun X => by
            have h := Tryd.internal_strconv_lower 95 X
            rw [show bits .or .u8 95 32 = 127 by decide +kernel] at h
            exact h
          have dO2 : Hid (dOf c = none) := by show _ = _; unfold dOf; rw [h95]; decide
          have HF := Lib.hid (puF_none 2097151 c (s.data.toList.drop (k + 1)) n dO2.out)
          have h95' : (c.toNat : Int) = 95 := by omega
          clear h95 hd hcl hcl'
          go_wp2_with (go_at_call 59; refine (HL5.out _).mono ?_; rintro e w' ⟨rfl, rfl⟩)
          go_ret2
          exact ⟨by rw [HN.out, HF.out]; rfl, hb⟩
        have t0 : ((c.toNat : Int) == 95) = false := by rw [beq_eq_false_iff_ne]; omega
        have hl := or32_lt c.toNat (by omega)
        have HLw := Lib.hid (fun X => Tryd.internal_strconv_lower (c.toNat : Int) X)
        rw [or32 c.toNat (by omega)] at HLw
        have dO : Hid (dOf c = if 97 ≤ (c.toNat ||| 32) ∧ (c.toNat ||| 32) ≤ 122 then some ((c.toNat ||| 32) - 87) else none) := by show _ = _; unfold dOf; rw [if_neg hd]
        generalize c.toNat ||| 32 = L at *
        have hL : (L : Int) < 256 := by omega
        clear h95
        by_cases h5 : c.toNat < 48
        · have t1 : decide (48 ≤ (c.toNat : Int)) = false := decide_eq_false (by omega)
          by_cases h1 : 97 ≤ L ∧ L ≤ 122
          · have dO2 : Hid (dOf c = some (L - 87)) := by show _ = _; rw [dO.out, if_pos h1]
            have t3 : decide (97 ≤ (L : Int)) = true := decide_eq_true (by omega)
            have t4 : decide ((L : Int) ≤ 122) = true := decide_eq_true (by omega)
            by_cases h3 : 16 ≤ L - 87
            · as_aux_lemma =>
              have HF := Lib.hid (puF_big 2097151 c (s.data.toList.drop (k + 1)) n _ dO2.out h3)
              have t5 : decide (16 ≤ (L : Int) - 97 + 10) = true := decide_eq_true (by omega)
              go_wp2_with (go_at_call 59; refine (HLw.out _).mono ?_; rintro e w' ⟨rfl, rfl⟩)
              go_ret2
              exact ⟨by rw [HN.out, HF.out]; rfl, hb⟩
            have t5 : decide (16 ≤ (L : Int) - 97 + 10) = false := decide_eq_false (by omega)
            by_cases h2 : 2097151 < 16 * n + (L - 87)
            · as_aux_lemma =>
              have HF := Lib.hid (puF_range 2097151 c (s.data.toList.drop (k + 1)) n _ dO2.out h3 h2)
              have q1 : decide ((n : Int) * 16 + ((L : Int) - 97 + 10) < (n : Int) * 16) = false := decide_eq_false (by omega)
              have q2 : decide (2097151 < (n : Int) * 16 + ((L : Int) - 97 + 10)) = true := decide_eq_true (by omega)
              go_wp2_with (go_at_call 59; refine (HLw.out _).mono ?_; rintro e w' ⟨rfl, rfl⟩)
              go_ret2
              exact ⟨by rw [HN.out, HF.out]; rfl, hb⟩
            · as_aux_lemma =>
              have HF := Lib.hid (puF_on 2097151 c (s.data.toList.drop (k + 1)) n _ dO2.out h3 h2)
              go_wp2_with (go_at_call 59; refine (HLw.out _).mono ?_; rintro e w' ⟨rfl, rfl⟩)
              go_round
              case rel => exact ⟨k + 1, 16 * n + (L - 87), rfl, congrArg _ (by omega), by go_num, by omega, by omega, by show _ = _; rw [HN.out, HF.out]⟩
              case measure => simp [intOf]; omega
          · have dO2 : Hid (dOf c = none) := by show _ = _; rw [dO.out, if_neg h1]
            have HF := Lib.hid (puF_none 2097151 c (s.data.toList.drop (k + 1)) n dO2.out)
            by_cases h4 : 97 ≤ L
            · as_aux_lemma =>
              have t3 : decide (97 ≤ (L : Int)) = true := decide_eq_true (by omega)
              have t4 : decide ((L : Int) ≤ 122) = false := decide_eq_false (by omega)
              go_wp2_with (go_at_call 59; refine (HLw.out _).mono ?_; rintro e w' ⟨rfl, rfl⟩)
              go_ret2
              exact ⟨by rw [HN.out, HF.out]; rfl, hb⟩
            · as_aux_lemma =>
              have t3 : decide (97 ≤ (L : Int)) = false := decide_eq_false (by omega)
              go_wp2_with (go_at_call 59; refine (HLw.out _).mono ?_; rintro e w' ⟨rfl, rfl⟩)
              go_ret2
              exact ⟨by rw [HN.out, HF.out]; rfl, hb⟩
        · have h6 : 57 < c.toNat := by omega
          have t1 : decide (48 ≤ (c.toNat : Int)) = true := decide_eq_true (by omega)
          have t2 : decide ((c.toNat : Int) ≤ 57) = false := decide_eq_false (by omega)
          by_cases h1 : 97 ≤ L ∧ L ≤ 122
          · have dO2 : Hid (dOf c = some (L - 87)) := by show _ = _; rw [dO.out, if_pos h1]
            have t3 : decide (97 ≤ (L : Int)) = true := decide_eq_true (by omega)
            have t4 : decide ((L : Int) ≤ 122) = true := decide_eq_true (by omega)
            by_cases h3 : 16 ≤ L - 87
            · as_aux_lemma =>
              have HF := Lib.hid (puF_big 2097151 c (s.data.toList.drop (k + 1)) n _ dO2.out h3)
              have t5 : decide (16 ≤ (L : Int) - 97 + 10) = true := decide_eq_true (by omega)
              go_wp2_with (go_at_call 59; refine (HLw.out _).mono ?_; rintro e w' ⟨rfl, rfl⟩)
              go_ret2
              exact ⟨by rw [HN.out, HF.out]; rfl, hb⟩
            have t5 : decide (16 ≤ (L : Int) - 97 + 10) = false := decide_eq_false (by omega)
            by_cases h2 : 2097151 < 16 * n + (L - 87)
            · as_aux_lemma =>
              have HF := Lib.hid (puF_range 2097151 c (s.data.toList.drop (k + 1)) n _ dO2.out h3 h2)
              have q1 : decide ((n : Int) * 16 + ((L : Int) - 97 + 10) < (n : Int) * 16) = false := decide_eq_false (by omega)
              have q2 : decide (2097151 < (n : Int) * 16 + ((L : Int) - 97 + 10)) = true := decide_eq_true (by omega)
              go_wp2_with (go_at_call 59; refine (HLw.out _).mono ?_; rintro e w' ⟨rfl, rfl⟩)
              go_ret2
              exact ⟨by rw [HN.out, HF.out]; rfl, hb⟩
            · as_aux_lemma =>
              have HF := Lib.hid (puF_on 2097151 c (s.data.toList.drop (k + 1)) n _ dO2.out h3 h2)
              go_wp2_with (go_at_call 59; refine (HLw.out _).mono ?_; rintro e w' ⟨rfl, rfl⟩)
              go_round
              case rel => exact ⟨k + 1, 16 * n + (L - 87), rfl, congrArg _ (by omega), by go_num, by omega, by omega, by show _ = _; rw [HN.out, HF.out]⟩
              case measure => simp [intOf]; omega
          · have dO2 : Hid (dOf c = none) := by show _ = _; rw [dO.out, if_neg h1]
            have HF := Lib.hid (puF_none 2097151 c (s.data.toList.drop (k + 1)) n dO2.out)
            by_cases h4 : 97 ≤ L
            · as_aux_lemma =>
              have t3 : decide (97 ≤ (L : Int)) = true := decide_eq_true (by omega)
              have t4 : decide ((L : Int) ≤ 122) = false := decide_eq_false (by omega)
              go_wp2_with (go_at_call 59; refine (HLw.out _).mono ?_; rintro e w' ⟨rfl, rfl⟩)
              go_ret2
              exact ⟨by rw [HN.out, HF.out]; rfl, hb⟩
            · as_aux_lemma =>
              have t3 : decide (97 ≤ (L : Int)) = false := decide_eq_false (by omega)
              go_wp2_with (go_at_call 59; refine (HLw.out _).mono ?_; rintro e w' ⟨rfl, rfl⟩)
              go_ret2
              exact ⟨by rw [HN.out, HF.out]; rfl, hb⟩
    · as_aux_lemma =>
      have HF : Hid (R = (n, 0)) := by show _ = _; rw [hR.out, drop_end s k hp]; rfl
      go_wp2
      go_ret2
      exact ⟨by rw [HF.out]; rfl, hb⟩
end Go.Proofs.YtmiloedhhnknpaaDoor
