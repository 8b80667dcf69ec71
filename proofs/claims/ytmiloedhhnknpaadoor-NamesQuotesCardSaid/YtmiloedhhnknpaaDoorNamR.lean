/- The walk of the reference's Quote. Conditions: as each theorem says. -/
import Derived.Test.YtmiloedhhnknpaaDoorNamM
namespace Go.Proofs.YtmiloedhhnknpaaDoor
open Go.RowKit

theorem quiet_left {P : Program} {f : FuncId} {args : Array Value} {w : World} {n : Nat} {v : Value}
    (h : Calls P f args (w.drewN n) fun e w' => e = .returned v ∧ w.drewN n = w') : Calls P f args (w.drewN n) fun e w' => e = .returned v ∧ ∃ m, w' = w.drewN m :=
  h.mono fun _ _ ⟨he, hw⟩ => ⟨he, n, hw.symm⟩
theorem below_drewN {B : Nat} {a w : World} (h : Below B a w) (n : Nat) : Below B a (w.drewN n) := ⟨h.os, h.tape, h.output, h.size, h.block⟩
theorem app_size (a b : ByteArray) : (a ++ b).size = a.size + b.size := ByteArray.size_append
set_option maxRecDepth 1000000 in
set_option maxHeartbeats 4000000 in
theorem refQuote_any (s : ByteArray) (w : World) (hs : s.size ≤ 1000000) :
    Calls Tryd.prog 22 #[.string s] w fun e w' => e = .returned (.string (bs (quoteL s.data.toList))) ∧ Below w.heap.size w w' := by
  have HR : Hid (quoteL s.data.toList = quoteF s.size s.data.toList) := by show _ = _; unfold quoteL; rw [Lib.size_eq]
  generalize quoteL s.data.toList = R at *
  go_enter Tryd.func22, Tryd.ntmps22
  go_wp2_with (fail)
  go_loopw [0, 3] (fun v0 v3 wr => ∃ (r o : ByteArray) (f : Nat), v0 = .string r ∧ v3 = .string o ∧ Below w.heap.size w wr ∧ Hid (R = o.data.toList ++ quoteF f r.data.toList) ∧ r.size ≤ f ∧ f ≤ s.size ∧ o.size + 10 * r.size ≤ 10 * s.size) (fun v0 _ _ => strLen v0)
  case atStart => exact ⟨s, ⟨#[]⟩, s.size, rfl, rfl, Below.refl _ _, by show _ = _; rw [HR.out]; rfl, by omega, by omega, by show 0 + _ ≤ _; omega⟩
  case round =>
    obtain ⟨r, o, f, rfl, rfl, hbw, hR, hf, hfs, hos⟩ := hrel
    by_cases hp : 0 < r.size
    · have Hne : Hid (r.data.toList ≠ []) := by
        have := Lib.size_eq r
        exact List.length_pos_iff.1 (by omega)
      have hdp : decide (0 < (r.size : Int)) = true := decide_eq_true (by omega)
      have hr1 : (1 : Int) ≤ (r.size : Int) := by omega
      have hr0 : (0 : Int) < (r.size : Int) := by omega
      have HW := Lib.hid (fun X => first_any r X (by omega))
      unfold FirstSaid at HW
      obtain ⟨f', rfl⟩ : ∃ f', f = f' + 1 := ⟨f - 1, by omega⟩
      have HS : Hid (R = (o.data.toList ++ stepL r.data.toList) ++ quoteF f' (r.data.toList.drop (Lib.decodeL r.data.toList).2)) := by
        show _ = _
        rw [hR.out, quoteF_step _ _ Hne.out, List.append_assoc]
      have hsl := stepL_len r.data.toList
      obtain ⟨hw1, hw2⟩ := decodeL_le _ Hne.out
      rw [← Lib.size_eq] at hw2
      by_cases hb : badL r.data.toList = true
      · as_aux_lemma =>
        rw [firstL_bad _ hb] at HW
        have hw : (Lib.decodeL r.data.toList).2 = 1 := by
          unfold badL at hb
          rw [of_decide_eq_true hb]
        have HT := Lib.hid (stepL_bad _ hb)
        rw [hw] at HS
        rw [getD_at r 0 hp] at HT
        have hbb := UInt8.toNat_lt r[0]
        have hbb' : (r[0].toNat : Int) < 256 := by omega
        have HD1 := Lib.hid (fun X => digit_any (r[0].toNat / 16) (by omega) X)
        have HD2 := Lib.hid (fun X => digit_any (r[0].toNat % 16) (by omega) X)
        rw [show ((r[0].toNat / 16 : Nat) : Int) = (r[0].toNat : Int) / 16 by omega] at HD1
        rw [show ((r[0].toNat % 16 : Nat) : Int) = (r[0].toNat : Int) % 16 by omega] at HD2
        have s1 : (o ++ (⟨#[92, 120]⟩ : ByteArray)).size ≤ 10000002 := by rw [app_size]; show _ + 2 ≤ _; omega
        have s2 : (o ++ (⟨#[92, 120]⟩ : ByteArray) ++ bs [dig (r[0].toNat / 16)]).size ≤ 10000003 := by rw [app_size, app_size]; show _ + 2 + 1 ≤ _; omega
        have s3 : (bs [dig (r[0].toNat / 16)]).size = 1 := rfl
        have s4 : (bs [dig (r[0].toNat % 16)]).size = 1 := rfl
        have Hes : Hid ((r.extract 1 r.size).size = r.size - 1) := by show _ = _; rw [Lib.size_eq, extract_drop, List.length_drop, ← Lib.size_eq]
        have HEX := Lib.hid (extract_drop r 1)
        have HO : Hid ((o ++ (⟨#[92, 120]⟩ : ByteArray) ++ bs [dig (r[0].toNat / 16)] ++ bs [dig (r[0].toNat % 16)]).data.toList = o.data.toList ++ stepL r.data.toList) := by
          show _ = _
          rw [HT.out, toList_app, toList_app, toList_app, bs_data, bs_data]
          simp
        have HOs : Hid ((o ++ (⟨#[92, 120]⟩ : ByteArray) ++ bs [dig (r[0].toNat / 16)] ++ bs [dig (r[0].toNat % 16)]).size = o.size + 4) := by
          show _ = _
          rw [app_size, app_size, app_size]
          show _ + 2 + 1 + 1 = _; omega
        clear hb hw hw1 hw2
        go_wp2_with (fail)
        refine (HW.out _).mono ?_
        rintro e w1 ⟨rfl, hb1⟩
        go_wp2_with (fail)
        go_quiet ((go_at_call 33; first | exact quiet_left (HD1.out _) | exact quiet_left (HD2.out _)))
        go_wp2
        go_roundw
        case rel => exact ⟨r.extract 1 r.size, _, f', rfl, rfl, below_drewN (hbw.trans (hb1.mono hbw.size)) _, by show _ = _; rw [HO.out, HEX.out]; exact HS.out, by rw [Hes.out]; omega, by omega, by rw [HOs.out, Hes.out]; omega⟩
        case measure => show (r.extract 1 r.size).size < r.size; rw [Hes.out]; omega
      · have hb' : badL r.data.toList = false := by simpa using hb
        rw [firstL_good _ Hne.out hb'] at HW
        have hmax := decodeL_max r.data.toList
        by_cases hq : 33 ≤ (Lib.decodeL r.data.toList).1 ∧ (Lib.decodeL r.data.toList).1 ≤ 126 ∧ (Lib.decodeL r.data.toList).1 ≠ 92
        · as_aux_lemma =>
          have HT := Lib.hid (stepL_one _ hb' hq)
          generalize Lib.decodeL r.data.toList = d at *
          obtain ⟨n, k⟩ := d
          simp only at hw1 hw2 HS HW hmax hq
          obtain ⟨q1, q2, q3⟩ := hq
          have hk0 : ((k : Int) == 0) = false := by rw [beq_eq_false_iff_ne]; omega
          have t1 : decide (33 ≤ (n : Int)) = true := decide_eq_true (by omega)
          have t2 : decide ((n : Int) ≤ 126) = true := decide_eq_true (by omega)
          have t3 : ((n : Int) != 92) = true := by rw [bne_iff_ne]; omega
          have hk1 : (k : Int) ≤ (r.size : Int) := by omega
          have Hes : Hid ((r.extract k r.size).size = r.size - k) := by show _ = _; rw [Lib.size_eq, extract_drop, List.length_drop, ← Lib.size_eq]
          have HEX := Lib.hid (extract_drop r k)
          have s1 : (r.extract 0 1).size = 1 := by rw [Lib.size_eq, ex_take]; simp; omega
          have HO : Hid ((o ++ r.extract 0 1).data.toList = o.data.toList ++ stepL r.data.toList) := by
            show _ = _
            rw [HT.out, toList_app, ex_take]; rfl
          have HOs : Hid ((o ++ r.extract 0 1).size = o.size + 1) := by show _ = _; rw [app_size, s1]
          clear hb hb' q3
          go_wp2_with (fail)
          refine (HW.out _).mono ?_
          rintro e w1 ⟨rfl, hb1⟩
          go_wp2
          go_roundw
          case rel => exact ⟨r.extract k r.size, _, f', rfl, rfl, hbw.trans (hb1.mono hbw.size), by show _ = _; rw [HO.out, HEX.out]; exact HS.out, by rw [Hes.out]; omega, by omega, by rw [HOs.out, Hes.out]; omega⟩
          case measure => show (r.extract k r.size).size < r.size; rw [Hes.out]; omega
        · have HT := Lib.hid (stepL_hex _ hb' hq)
          generalize Lib.decodeL r.data.toList = d at *
          obtain ⟨n, k⟩ := d
          simp only at hw1 hw2 HS HW hmax hq HT
          have HX := Lib.hid (fun X => hex_any n (by omega) X)
          have hh6 := hexL_len n 6 (by omega) (by omega)
          have hz6 : (bs (hexL n)).size ≤ 6 := by rw [bs_size]; exact hh6
          have hk0 : ((k : Int) == 0) = false := by rw [beq_eq_false_iff_ne]; omega
          have hk1 : (k : Int) ≤ (r.size : Int) := by omega
          have Hes : Hid ((r.extract k r.size).size = r.size - k) := by show _ = _; rw [Lib.size_eq, extract_drop, List.length_drop, ← Lib.size_eq]
          have HEX := Lib.hid (extract_drop r k)
          have s1 : (o ++ (⟨#[92, 117, 123]⟩ : ByteArray)).size ≤ 10000003 := by rw [app_size]; show _ + 3 ≤ _; omega
          have s2 : (o ++ (⟨#[92, 117, 123]⟩ : ByteArray) ++ bs (hexL n)).size ≤ 10000009 := by rw [app_size, app_size]; show _ + 3 + _ ≤ _; omega
          have HO : Hid ((o ++ (⟨#[92, 117, 123]⟩ : ByteArray) ++ bs (hexL n) ++ (⟨#[125]⟩ : ByteArray)).data.toList = o.data.toList ++ stepL r.data.toList) := by
            show _ = _
            rw [HT.out, toList_app, toList_app, toList_app, bs_data]
            simp
          have HOs : Hid ((o ++ (⟨#[92, 117, 123]⟩ : ByteArray) ++ bs (hexL n) ++ (⟨#[125]⟩ : ByteArray)).size ≤ o.size + 10) := by
            show _ ≤ _
            rw [app_size, app_size, app_size]
            show _ + 3 + _ + 1 ≤ _; omega
          clear hb hb'
          have key : ∀ (t1 t2 : Bool), True := fun _ _ => trivial
          rcases Nat.lt_or_ge n 33 with q1 | q1
          · as_aux_lemma =>
            have t1 : decide (33 ≤ (n : Int)) = false := decide_eq_false (by omega)
            clear hq
            go_wp2_with (fail)
            refine (HW.out _).mono ?_
            rintro e w1 ⟨rfl, hb1⟩
            go_wp2_with (fail)
            refine (HX.out _).mono ?_
            rintro e w2 ⟨rfl, rfl⟩
            go_wp2
            go_roundw
            case rel => exact ⟨r.extract k r.size, _, f', rfl, rfl, hbw.trans (hb1.mono hbw.size), by show _ = _; rw [HO.out, HEX.out]; exact HS.out, by rw [Hes.out]; omega, by omega, by have := HOs.out; rw [Hes.out]; omega⟩
            case measure => show (r.extract k r.size).size < r.size; rw [Hes.out]; omega
          have t1 : decide (33 ≤ (n : Int)) = true := decide_eq_true (by omega)
          rcases Nat.lt_or_ge 126 n with q2 | q2
          · as_aux_lemma =>
            have t2 : decide ((n : Int) ≤ 126) = false := decide_eq_false (by omega)
            clear hq
            go_wp2_with (fail)
            refine (HW.out _).mono ?_
            rintro e w1 ⟨rfl, hb1⟩
            go_wp2_with (fail)
            refine (HX.out _).mono ?_
            rintro e w2 ⟨rfl, rfl⟩
            go_wp2
            go_roundw
            case rel => exact ⟨r.extract k r.size, _, f', rfl, rfl, hbw.trans (hb1.mono hbw.size), by show _ = _; rw [HO.out, HEX.out]; exact HS.out, by rw [Hes.out]; omega, by omega, by have := HOs.out; rw [Hes.out]; omega⟩
            case measure => show (r.extract k r.size).size < r.size; rw [Hes.out]; omega
          · as_aux_lemma =>
            have t2 : decide ((n : Int) ≤ 126) = true := decide_eq_true (by omega)
            have t3 : ((n : Int) != 92) = false := by simp; omega
            clear hq
            go_wp2_with (fail)
            refine (HW.out _).mono ?_
            rintro e w1 ⟨rfl, hb1⟩
            go_wp2_with (fail)
            refine (HX.out _).mono ?_
            rintro e w2 ⟨rfl, rfl⟩
            go_wp2
            go_roundw
            case rel => exact ⟨r.extract k r.size, _, f', rfl, rfl, hbw.trans (hb1.mono hbw.size), by show _ = _; rw [HO.out, HEX.out]; exact HS.out, by rw [Hes.out]; omega, by omega, by have := HOs.out; rw [Hes.out]; omega⟩
            case measure => show (r.extract k r.size).size < r.size; rw [Hes.out]; omega
    · as_aux_lemma =>
      have hz := isNone r (by omega)
      subst hz
      have HF : Hid (bs R = o) := by
        show _ = _
        rw [hR.out, show (⟨#[]⟩ : ByteArray).data.toList = [] from rfl, quoteF_nil, List.append_nil, bs_of]
      go_wp2
      go_ret
      exact ⟨by rw [HF.out]; rfl, hbw⟩
end Go.Proofs.YtmiloedhhnknpaaDoor
