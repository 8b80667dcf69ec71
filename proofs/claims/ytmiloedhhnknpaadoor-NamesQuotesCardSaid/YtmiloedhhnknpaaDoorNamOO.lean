/- The walk of the reference's one, whole. Conditions: as each theorem says. -/
import Derived.Test.YtmiloedhhnknpaaDoorNamO
namespace Go.Proofs.YtmiloedhhnknpaaDoor
open Go.RowKit

theorem ex13 (s : ByteArray) : ((s.extract 1 3).toList == [117, 123]) = decide ((s.data.toList.drop 1).take 2 = [117, 123]) := by
  rw [ByteArray.toList_eq, ex_take, Bool.eq_iff_iff, beq_iff_eq, decide_eq_true_eq]
theorem ex13_no (s : ByteArray) (h : 1 < s.size) (h1 : s[1].toNat ≠ 117) : ((s.extract 1 3).toList == [117, 123]) = false := by
  rw [ex13, decide_eq_false_iff_not]
  intro hh
  have h2 := drop_at s 1 h
  rw [h2] at hh
  have : s[1] = 117 := by simpa using congrArg (fun l => l.getD 0 0) hh
  exact h1 (by rw [this]; rfl)
set_option maxRecDepth 1000000 in
set_option maxHeartbeats 2000000 in
theorem one_a (s : ByteArray) (w : World) (hs : s.size ≤ 1000000) (hp : 0 < s.size) (h : s[0].toNat = 92) (h4 : s.size < 4) : Calls Tryd.prog 32 #[.string s] w fun e w' => OneSaid ([], 0) w e w' := by
  have t1 : ((s[0].toNat : Int) != 92) = false := by simp; omega
  have t2 : decide (4 ≤ (s.size : Int)) = false := decide_eq_false (by omega)
  have t9 : decide ((s.size : Int) < 5) = true := decide_eq_true (by omega)
  clear h
  go_enter Tryd.func32, Tryd.ntmps32
  go_wp2
  go_ret2
  exact ⟨rfl, Below.refl _ _⟩
set_option maxRecDepth 1000000 in
set_option maxHeartbeats 2000000 in
theorem one_b4 (s : ByteArray) (w : World) (hs : s.size ≤ 1000000) (hp : 0 < s.size) (h : s[0].toNat = 92) (h4 : 4 ≤ s.size) (h1 : s[1].toNat = 120) (h2 : vOf s[2] < 0) (h5 : s.size < 5) : Calls Tryd.prog 32 #[.string s] w fun e w' => OneSaid ([], 0) w e w' := by
  have t1 : ((s[0].toNat : Int) != 92) = false := by simp; omega
  have t2 : decide (4 ≤ (s.size : Int)) = true := decide_eq_true (by omega)
  have hp4 : (4 : Int) ≤ (s.size : Int) := by omega
  have t3 : ((s[1].toNat : Int) == 120) = true := by rw [beq_iff_eq]; omega
  have t9 : decide ((s.size : Int) < 5) = true := decide_eq_true (by omega)
  have HV2 := Lib.hid (fun X => value_any s[2] X)
  generalize vOf s[2] = V2 at *
  have t4 : decide (0 ≤ V2) = false := decide_eq_false (by omega)
  clear h h1
  go_enter Tryd.func32, Tryd.ntmps32
  go_wp2_with (fail)
  refine (HV2.out _).mono ?_
  rintro e w1 ⟨rfl, rfl⟩
  go_wp2
  go_ret2
  exact ⟨rfl, Below.refl _ _⟩
set_option maxRecDepth 1000000 in
set_option maxHeartbeats 2000000 in
theorem one_c4 (s : ByteArray) (w : World) (hs : s.size ≤ 1000000) (hp : 0 < s.size) (h : s[0].toNat = 92) (h4 : 4 ≤ s.size) (h1 : s[1].toNat = 120) (h2 : (0 : Int) ≤ vOf s[2]) (h3 : vOf s[3] < 0) (h5 : s.size < 5) : Calls Tryd.prog 32 #[.string s] w fun e w' => OneSaid ([], 0) w e w' := by
  have t1 : ((s[0].toNat : Int) != 92) = false := by simp; omega
  have t2 : decide (4 ≤ (s.size : Int)) = true := decide_eq_true (by omega)
  have hp4 : (4 : Int) ≤ (s.size : Int) := by omega
  have t3 : ((s[1].toNat : Int) == 120) = true := by rw [beq_iff_eq]; omega
  have t9 : decide ((s.size : Int) < 5) = true := decide_eq_true (by omega)
  have HV2 := Lib.hid (fun X => value_any s[2] X)
  generalize vOf s[2] = V2 at *
  have HV3 := Lib.hid (fun X => value_any s[3] X)
  generalize vOf s[3] = V3 at *
  have t4 : decide (0 ≤ V2) = true := decide_eq_true (by omega)
  have t5 : decide (0 ≤ V3) = false := decide_eq_false (by omega)
  clear h h1
  go_enter Tryd.func32, Tryd.ntmps32
  go_wp2_with (fail)
  refine (HV2.out _).mono ?_
  rintro e w1 ⟨rfl, rfl⟩
  go_wp2_with (fail)
  refine (HV3.out _).mono ?_
  rintro e w1 ⟨rfl, rfl⟩
  go_wp2
  go_ret2
  exact ⟨rfl, Below.refl _ _⟩
set_option maxRecDepth 1000000 in
set_option maxHeartbeats 2000000 in
theorem one_b5 (s : ByteArray) (w : World) (hs : s.size ≤ 1000000) (hp : 0 < s.size) (h : s[0].toNat = 92) (h4 : 4 ≤ s.size) (h1 : s[1].toNat = 120) (h2 : vOf s[2] < 0) (h5 : 5 ≤ s.size) : Calls Tryd.prog 32 #[.string s] w fun e w' => OneSaid ([], 0) w e w' := by
  have t1 : ((s[0].toNat : Int) != 92) = false := by simp; omega
  have t2 : decide (4 ≤ (s.size : Int)) = true := decide_eq_true (by omega)
  have hp4 : (4 : Int) ≤ (s.size : Int) := by omega
  have t3 : ((s[1].toNat : Int) == 120) = true := by rw [beq_iff_eq]; omega
  have t9 : decide ((s.size : Int) < 5) = false := decide_eq_false (by omega)
  have hp5 : (5 : Int) ≤ (s.size : Int) := by omega
  have t10 := ex13_no s (by omega) (by omega)
  have HV2 := Lib.hid (fun X => value_any s[2] X)
  generalize vOf s[2] = V2 at *
  have t4 : decide (0 ≤ V2) = false := decide_eq_false (by omega)
  clear h h1
  go_enter Tryd.func32, Tryd.ntmps32
  go_wp2_with (fail)
  refine (HV2.out _).mono ?_
  rintro e w1 ⟨rfl, rfl⟩
  go_wp2
  go_ret2
  exact ⟨rfl, Below.refl _ _⟩
set_option maxRecDepth 1000000 in
set_option maxHeartbeats 2000000 in
theorem one_c5 (s : ByteArray) (w : World) (hs : s.size ≤ 1000000) (hp : 0 < s.size) (h : s[0].toNat = 92) (h4 : 4 ≤ s.size) (h1 : s[1].toNat = 120) (h2 : (0 : Int) ≤ vOf s[2]) (h3 : vOf s[3] < 0) (h5 : 5 ≤ s.size) : Calls Tryd.prog 32 #[.string s] w fun e w' => OneSaid ([], 0) w e w' := by
  have t1 : ((s[0].toNat : Int) != 92) = false := by simp; omega
  have t2 : decide (4 ≤ (s.size : Int)) = true := decide_eq_true (by omega)
  have hp4 : (4 : Int) ≤ (s.size : Int) := by omega
  have t3 : ((s[1].toNat : Int) == 120) = true := by rw [beq_iff_eq]; omega
  have t9 : decide ((s.size : Int) < 5) = false := decide_eq_false (by omega)
  have hp5 : (5 : Int) ≤ (s.size : Int) := by omega
  have t10 := ex13_no s (by omega) (by omega)
  have HV2 := Lib.hid (fun X => value_any s[2] X)
  generalize vOf s[2] = V2 at *
  have HV3 := Lib.hid (fun X => value_any s[3] X)
  generalize vOf s[3] = V3 at *
  have t4 : decide (0 ≤ V2) = true := decide_eq_true (by omega)
  have t5 : decide (0 ≤ V3) = false := decide_eq_false (by omega)
  clear h h1
  go_enter Tryd.func32, Tryd.ntmps32
  go_wp2_with (fail)
  refine (HV2.out _).mono ?_
  rintro e w1 ⟨rfl, rfl⟩
  go_wp2_with (fail)
  refine (HV3.out _).mono ?_
  rintro e w1 ⟨rfl, rfl⟩
  go_wp2
  go_ret2
  exact ⟨rfl, Below.refl _ _⟩
set_option maxRecDepth 1000000 in
set_option maxHeartbeats 2000000 in
theorem one_d (s : ByteArray) (w : World) (hs : s.size ≤ 1000000) (hp : 0 < s.size) (h : s[0].toNat = 92) (h4 : 4 ≤ s.size) (h1 : s[1].toNat ≠ 120) (h5 : s.size < 5) : Calls Tryd.prog 32 #[.string s] w fun e w' => OneSaid ([], 0) w e w' := by
  have t1 : ((s[0].toNat : Int) != 92) = false := by simp; omega
  have t2 : decide (4 ≤ (s.size : Int)) = true := decide_eq_true (by omega)
  have hp4 : (4 : Int) ≤ (s.size : Int) := by omega
  have t3 : ((s[1].toNat : Int) == 120) = false := by rw [beq_eq_false_iff_ne]; omega
  have t9 : decide ((s.size : Int) < 5) = true := decide_eq_true (by omega)
  clear h h1
  go_enter Tryd.func32, Tryd.ntmps32
  go_wp2
  go_ret2
  exact ⟨rfl, Below.refl _ _⟩
set_option maxRecDepth 1000000 in
set_option maxHeartbeats 2000000 in
theorem one_e (s : ByteArray) (w : World) (hs : s.size ≤ 1000000) (hp : 0 < s.size) (h : s[0].toNat = 92) (h4 : 4 ≤ s.size) (h1 : s[1].toNat ≠ 120) (h5 : 5 ≤ s.size) (h6 : ((s.extract 1 3).toList == [117, 123]) = false) : Calls Tryd.prog 32 #[.string s] w fun e w' => OneSaid ([], 0) w e w' := by
  have t1 : ((s[0].toNat : Int) != 92) = false := by simp; omega
  have t2 : decide (4 ≤ (s.size : Int)) = true := decide_eq_true (by omega)
  have hp4 : (4 : Int) ≤ (s.size : Int) := by omega
  have t3 : ((s[1].toNat : Int) == 120) = false := by rw [beq_eq_false_iff_ne]; omega
  have t9 : decide ((s.size : Int) < 5) = false := decide_eq_false (by omega)
  have hp5 : (5 : Int) ≤ (s.size : Int) := by omega
  clear h h1
  go_enter Tryd.func32, Tryd.ntmps32
  go_wp2
  go_ret2
  exact ⟨rfl, Below.refl _ _⟩

theorem pow7 (i : Nat) (h : i ≤ 7) : 16 ^ i ≤ 268435456 := Nat.le_trans (Nat.pow_le_pow_right (by omega) h) (by decide)
set_option maxRecDepth 1000000 in
set_option maxHeartbeats 4000000 in
theorem one_u (s : ByteArray) (w : World) (hs : s.size ≤ 1000000) (hp : 0 < s.size) (h : s[0].toNat = 92) (h4 : 4 ≤ s.size) (h1 : s[1].toNat ≠ 120) (h5 : 5 ≤ s.size) (h6 : ((s.extract 1 3).toList == [117, 123]) = true) (p : Nat × Nat) (hpp : p = digF s.data.toList 7 3 0) (q : List UInt8 × Nat)
    (hq : q = if s.size ≤ p.2 ∨ s.data.toList.getD p.2 0 ≠ 125 ∨ 1114111 < p.1 then ([], 0) else (bytS p.1, p.2 + 1)) : Calls Tryd.prog 32 #[.string s] w fun e w' => OneSaid q w e w' := by
  have t1 : ((s[0].toNat : Int) != 92) = false := by simp; omega
  have t2 : decide (4 ≤ (s.size : Int)) = true := decide_eq_true (by omega)
  have hp4 : (4 : Int) ≤ (s.size : Int) := by omega
  have t3 : ((s[1].toNat : Int) == 120) = false := by rw [beq_eq_false_iff_ne]; omega
  have t9 : decide ((s.size : Int) < 5) = false := decide_eq_false (by omega)
  have hp5 : (5 : Int) ≤ (s.size : Int) := by omega
  have Hp := Lib.hid hpp
  have Hq := Lib.hid hq
  clear h h1 hpp hq
  go_enter Tryd.func32, Tryd.ntmps32
  go_wp2_with (fail)
  go_loop [4, 5] (fun v4 v5 => ∃ (n i f : Nat), v4 = .int .i64 (n : Int) ∧ v5 = .int .i64 (i : Int) ∧ 3 ≤ i ∧ f + i = 10 ∧ i ≤ s.size ∧ n < 16 ^ (i - 3) ∧ Hid (p = digF s.data.toList f i n)) (fun _ v5 => s.size - (intOf v5).toNat)
  case atStart => exact ⟨0, 3, 7, rfl, rfl, by omega, by omega, by omega, by decide, Hp⟩
  case round =>
    obtain ⟨n, i, f, rfl, rfl, hi3, hfi, his, hn16, hP⟩ := hrel
    have hn := Nat.lt_of_lt_of_le hn16 (pow7 (i - 3) (by omega))
    by_cases hil : i < s.size
    · have hil' : (i : Int) < (s.size : Int) := by omega
      have u1 : decide ((i : Int) < (s.size : Int)) = true := decide_eq_true (by omega)
      by_cases hit : i < 10
      · have u2 : decide ((i : Int) < 10) = true := decide_eq_true (by omega)
        have HV := Lib.hid (fun X => value_any s[i] X)
        have hrg := vOf_rng s[i]
        have hgd := getD_at s i hil
        by_cases hv : (0 : Int) ≤ vOf s[i]
        · as_aux_lemma =>
          obtain ⟨f', rfl⟩ : ∃ f', f = f' + 1 := ⟨f - 1, by omega⟩
          have HF : Hid (p = digF s.data.toList f' (i + 1) (16 * n + (vOf s[i]).toNat)) := by
            show _ = _
            rw [hP.out, digF_on _ _ _ _ ⟨by rw [← Lib.size_eq]; exact hil, hit, by rw [hgd]; exact hv⟩, hgd]
          generalize vOf s[i] = V at *
          obtain ⟨a, rfl⟩ := Int.eq_ofNat_of_zero_le hv
          have u3 : decide (0 ≤ (a : Int)) = true := decide_eq_true hv
          have ha : (a : Int) ≤ 15 := hrg.2
          have hpow : 16 * n + a < 16 ^ (i + 1 - 3) := by
            rw [show i + 1 - 3 = (i - 3) + 1 by omega, Nat.pow_succ]
            omega
          clear hgd hrg hv hn16
          go_wp2_with (go_at_call 42; refine (HV.out _).mono ?_; rintro e w' ⟨rfl, rfl⟩)
          go_round
          case rel => exact ⟨16 * n + a, i + 1, f', congrArg _ (by omega), by go_num, by omega, by omega, by omega, hpow, by show _ = _; rw [HF.out]; rfl⟩
          case measure => simp [intOf]; omega
        · as_aux_lemma =>
          have HF : Hid (p = (n, i)) := by
            show _ = _
            rw [hP.out, digF_end]
            rintro ⟨_, _, h3⟩
            rw [hgd] at h3
            exact hv h3
          have Hq2 : Hid (q = if s.size ≤ i ∨ s[i].toNat ≠ 125 ∨ 1114111 < n then ([], 0) else (bytS n, i + 1)) := by
            show _ = _
            rw [Hq.out, HF.out]
            simp only
            congr 1
            rw [hgd]
            have : (s[i] ≠ 125) = (s[i].toNat ≠ 125) := propext ⟨fun h h2 => h (UInt8.toNat_inj.1 h2), fun h h2 => h (by rw [h2]; rfl)⟩
            rw [this]
          generalize vOf s[i] = V at *
          have u3 : decide (0 ≤ V) = false := decide_eq_false hv
          have u4 : decide ((s.size : Int) ≤ (i : Int)) = false := decide_eq_false (by omega)
          clear hgd hrg hv hn16
          by_cases h125 : s[i].toNat = 125
          · have u5 : ((s[i].toNat : Int) != 125) = false := by simp; omega
            by_cases hbig : 1114111 < n
            · rw [if_pos (.inr (.inr hbig))] at Hq2
              have u6 : decide (1114111 < (n : Int)) = true := decide_eq_true (by omega)
              clear h125
              go_wp2_with (go_at_call 42; refine (HV.out _).mono ?_; rintro e w' ⟨rfl, rfl⟩)
              go_ret2
              exact ⟨by rw [Hq2.out]; rfl, Below.refl _ _⟩
            · rw [if_neg (by omega)] at Hq2
              have u6 : decide (1114111 < (n : Int)) = false := decide_eq_false (by omega)
              have HBy := Lib.hid (fun X => bytes_any n (by omega) X)
              clear h125
              go_wp2_with (fail)
              refine (HV.out _).mono ?_
              rintro e w1 ⟨rfl, rfl⟩
              go_wp2_with (fail)
              refine (HBy.out _).mono ?_
              rintro e w2 ⟨rfl, hb2⟩
              go_wp2
              go_ret2
              exact ⟨by rw [Hq2.out]; rfl, hb2⟩
          · rw [if_pos (.inr (.inl h125))] at Hq2
            have u5 : ((s[i].toNat : Int) != 125) = true := by rw [bne_iff_ne]; omega
            clear h125
            go_wp2_with (go_at_call 42; refine (HV.out _).mono ?_; rintro e w' ⟨rfl, rfl⟩)
            go_ret2
            exact ⟨by rw [Hq2.out]; rfl, Below.refl _ _⟩
      · as_aux_lemma =>
        have u2 : decide ((i : Int) < 10) = false := decide_eq_false (by omega)
        have hgd := getD_at s i hil
        have HF : Hid (p = (n, i)) := by
          show _ = _
          rw [hP.out, digF_end]
          rintro ⟨_, h3, _⟩
          exact hit h3
        have Hq2 : Hid (q = if s.size ≤ i ∨ s[i].toNat ≠ 125 ∨ 1114111 < n then ([], 0) else (bytS n, i + 1)) := by
          show _ = _
          rw [Hq.out, HF.out]
          simp only
          congr 1
          rw [hgd]
          have : (s[i] ≠ 125) = (s[i].toNat ≠ 125) := propext ⟨fun h h2 => h (UInt8.toNat_inj.1 h2), fun h h2 => h (by rw [h2]; rfl)⟩
          rw [this]
        have u4 : decide ((s.size : Int) ≤ (i : Int)) = false := decide_eq_false (by omega)
        clear hgd hn16
        by_cases h125 : s[i].toNat = 125
        · have u5 : ((s[i].toNat : Int) != 125) = false := by simp; omega
          by_cases hbig : 1114111 < n
          · rw [if_pos (.inr (.inr hbig))] at Hq2
            have u6 : decide (1114111 < (n : Int)) = true := decide_eq_true (by omega)
            clear h125
            go_wp2
            go_ret2
            exact ⟨by rw [Hq2.out]; rfl, Below.refl _ _⟩
          · rw [if_neg (by omega)] at Hq2
            have u6 : decide (1114111 < (n : Int)) = false := decide_eq_false (by omega)
            have HBy := Lib.hid (fun X => bytes_any n (by omega) X)
            clear h125
            go_wp2_with (fail)
            refine (HBy.out _).mono ?_
            rintro e w2 ⟨rfl, hb2⟩
            go_wp2
            go_ret2
            exact ⟨by rw [Hq2.out]; rfl, hb2⟩
        · rw [if_pos (.inr (.inl h125))] at Hq2
          have u5 : ((s[i].toNat : Int) != 125) = true := by rw [bne_iff_ne]; omega
          clear h125
          go_wp2
          go_ret2
          exact ⟨by rw [Hq2.out]; rfl, Below.refl _ _⟩
    · as_aux_lemma =>
      have HF : Hid (p = (n, i)) := by
        show _ = _
        rw [hP.out, digF_end]
        rintro ⟨h3, _, _⟩
        rw [← Lib.size_eq] at h3
        exact hil h3
      have Hq2 : Hid (q = ([], 0)) := by
        show _ = _
        rw [Hq.out, HF.out, if_pos (.inl (by simp only; omega))]
      have u1 : decide ((i : Int) < (s.size : Int)) = false := decide_eq_false (by omega)
      have u4 : decide ((s.size : Int) ≤ (i : Int)) = true := decide_eq_true (by omega)
      clear hn16
      go_wp2
      go_ret2
      exact ⟨by rw [Hq2.out]; rfl, Below.refl _ _⟩
theorem one_any (s : ByteArray) (w : World) (hp : 0 < s.size) (hs : s.size ≤ 1000000) : Calls Tryd.prog 32 #[.string s] w fun e w' => OneSaid (oneP s.data.toList) w e w' := by
  by_cases h : s[0].toNat = 92
  · have g0 := (neg_get s 0 hp 92 92 rfl).2 h
    by_cases h4 : 4 ≤ s.size
    · by_cases h1 : s[1].toNat = 120
      · have g1 := (neg_get s 1 (by omega) 120 120 rfl).2 h1
        by_cases h2 : (0 : Int) ≤ vOf s[2]
        · by_cases h3 : (0 : Int) ≤ vOf s[3]
          · exact one_x s w h4 hs h h1 h2 h3
          · have hR : oneP s.data.toList = ([], 0) := by
              unfold oneP
              rw [if_neg (fun hh => hh g0), getD_at s 3 (by omega), if_neg (fun hh => h3 hh.2.2.2), if_pos]
              by_cases h5 : 5 ≤ s.size
              · right
                have := ex13_no s (by omega) (by omega)
                rw [ex13, decide_eq_false_iff_not] at this
                exact this
              · left; rw [← Lib.size_eq]; omega
            rw [hR]
            by_cases h5 : 5 ≤ s.size
            · exact one_c5 s w hs hp h h4 h1 h2 (by omega) h5
            · exact one_c4 s w hs hp h h4 h1 h2 (by omega) (by omega)
        · have hR : oneP s.data.toList = ([], 0) := by
            unfold oneP
            rw [if_neg (fun hh => hh g0), getD_at s 2 (by omega), if_neg (fun hh => h2 hh.2.2.1), if_pos]
            by_cases h5 : 5 ≤ s.size
            · right
              have := ex13_no s (by omega) (by omega)
              rw [ex13, decide_eq_false_iff_not] at this
              exact this
            · left; rw [← Lib.size_eq]; omega
          rw [hR]
          by_cases h5 : 5 ≤ s.size
          · exact one_b5 s w hs hp h h4 h1 (by omega) h5
          · exact one_b4 s w hs hp h h4 h1 (by omega) (by omega)
      · have g1 : ¬ s.data.toList.getD 1 0 = 120 := fun hh => h1 ((neg_get s 1 (by omega) 120 120 rfl).1 hh)
        by_cases h5 : 5 ≤ s.size
        · by_cases h6 : ((s.extract 1 3).toList == [117, 123]) = true
          · refine one_u s w hs hp h h4 h1 h5 h6 _ rfl _ ?_
            unfold oneP
            rw [if_neg (fun hh => hh g0), if_neg (fun hh => g1 hh.2.1), if_neg, Lib.size_eq]
            rw [ex13, decide_eq_true_eq] at h6
            rw [← Lib.size_eq]
            intro hh
            rcases hh with hh | hh
            · omega
            · exact hh h6
          · have h6' : ((s.extract 1 3).toList == [117, 123]) = false := by simpa using h6
            have hR : oneP s.data.toList = ([], 0) := by
              unfold oneP
              rw [if_neg (fun hh => hh g0), if_neg (fun hh => g1 hh.2.1), if_pos]
              right
              have := h6'
              rw [ex13, decide_eq_false_iff_not] at this
              exact this
            rw [hR]
            exact one_e s w hs hp h h4 h1 h5 h6'
        · have hR : oneP s.data.toList = ([], 0) := by
            unfold oneP
            rw [if_neg (fun hh => hh g0), if_neg (fun hh => g1 hh.2.1), if_pos]
            left; rw [← Lib.size_eq]; omega
          rw [hR]
          exact one_d s w hs hp h h4 h1 (by omega)
    · have hR : oneP s.data.toList = ([], 0) := by
        unfold oneP
        rw [if_neg (fun hh => hh g0), if_neg (fun hh => h4 (by rw [Lib.size_eq]; exact hh.1)), if_pos]
        left; rw [← Lib.size_eq]; omega
      rw [hR]
      exact one_a s w hs hp h (by omega)
  · exact one_0 s w hp hs h
end Go.Proofs.YtmiloedhhnknpaaDoor
