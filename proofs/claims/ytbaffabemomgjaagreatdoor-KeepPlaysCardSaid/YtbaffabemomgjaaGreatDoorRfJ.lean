/- The reference's Tidy. Conditions: as each theorem says. -/
import Derived.Test.YtbaffabemomgjaaGreatDoorRfI
namespace Go.Proofs.YtbaffabemomgjaaGreatDoor
open Go.RowKit

theorem tmp_parts (q : Bys) : isTmp q = (decide (9 ≤ q.length) && (decide (q.take 5 = keepP) && decide (q.drop (q.length - 4) = newS))) := by
  rw [Bool.eq_iff_iff]
  unfold isTmp
  simp only [Bool.and_eq_true, decide_eq_true_eq, List.isPrefixOf_iff_prefix, List.isSuffixOf_iff_suffix]
  constructor
  · rintro ⟨h1, h2⟩
    have e1 : q.take 5 = keepP := (List.prefix_iff_eq_take.1 h1).symm
    have e2 : q.drop (q.length - 4) = newS := (List.suffix_iff_eq_drop.1 h2).symm
    refine ⟨?_, e1, e2⟩
    apply Classical.byContradiction
    intro hlt
    have hl1 := h1.length_le
    have hl2 := h2.length_le
    simp only [keepP, newS, List.length_cons, List.length_nil] at hl1 hl2
    have g1 : q[q.length - 4]? = some 46 := by
      have : (q.drop (q.length - 4))[0]? = some 46 := by rw [e2]; rfl
      simpa using this
    have g2 : q[q.length - 4]? = keepP[q.length - 4]? := by
      have : (q.take 5)[q.length - 4]? = keepP[q.length - 4]? := by rw [e1]
      rw [List.getElem?_take, if_pos (by omega)] at this
      exact this
    rw [g1] at g2
    have : ∀ j : Fin 5, keepP[j.1]? ≠ some 46 := by decide
    exact this ⟨q.length - 4, by omega⟩ g2.symm
  · rintro ⟨_, h1, h2⟩
    exact ⟨by rw [← h1]; exact List.take_prefix _ _, by rw [← h2]; exact List.drop_suffix _ _⟩
section
variable {base g : Nat} {d : Dk} {w : World}
set_option maxRecDepth 100000 in
set_option maxHeartbeats 3200000 in
theorem rtidy_any (h : RdAt base g d w) (hf : d.fit) (hn : d.m.length < 700000) (hkl : ∀ p ∈ d.m, p.1.length ≤ maxLen) : Calls Tryz.prog 12 #[ptrV g] w (RdDone base g (tidyD d).1 (tidyD d).2 w) := by
  have H0 := Lib.hid (Rw.start h)
  have HNm := Lib.hid (rnames_any h (by omega))
  obtain ⟨a, cap, h⟩ := h
  have c3 := h.blk.cell (i := 3) rfl
  have hle := h.le
  have hgl := h.blk.lt
  cases hd : d.dead with
  | true =>
    as_aux_lemma =>
    have e : tidyD d = (d, 20) := by unfold tidyD; rw [if_pos hd]
    rw [hd] at c3
    rw [e]
    unfold ptrV
    clear h hf hn e hd HNm hkl
    go_enter Tryz.func12, Tryz.ntmps12
    go_wp2
    go_ret
    exact ⟨rfl, H0.out.at_, H0.out.ap⟩
  | false =>
    rw [hd] at c3
    have e : tidyD d = tidyL (d.m.map (·.1)) d := by unfold tidyD; rw [if_neg (by rw [hd]; decide)]
    obtain ⟨R, hR⟩ : ∃ R, R = tidyD d := ⟨_, rfl⟩
    rw [← hR]
    rw [e] at hR
    have e2 : namesD d = d.m.map (·.1) := by unfold namesD; rw [if_neg (by rw [hd]; decide)]
    rw [e2] at HNm
    have hkl : ∀ x ∈ d.m.map (·.1), x.length ≤ maxLen := by
      intro x hx
      obtain ⟨p, hp, rfl⟩ := List.mem_map.1 hx
      exact hkl p hp
    have hnl : (d.m.map (·.1)).length < 700000 := by rw [List.length_map]; exact hn
    have hr0 : d.m.length < 700000 := hn
    generalize d.m.map (·.1) = N at *
    have hR := Lib.hid hR
    have hkl := Lib.hid hkl
    have HF := Lib.hid hf
    unfold ptrV at *
    clear h hn e hd e2 hf
    go_enter Tryz.func12, Tryz.ntmps12
    go_wp2_with (fail)
    refine HNm.out.mono ?_
    rintro e w2 ⟨v, rfl, hG, hB⟩
    have H2 := Lib.hid (H0.out.grew hB)
    obtain ⟨na, nc, hv⟩ := hG.slice
    subst hv
    have hsep : ∃ nb, nb = w.heap.size := ⟨_, rfl⟩
    have HG := Lib.hid hG
    clear hG hB HNm H0
    go_wp2_with (fail)
    go_loopw [4] (fun v4 wr => ∃ (k : Nat) (d' : Dk), v4 = .int .i64 (k : Int) ∧ k ≤ N.length ∧ R = tidyL (N.drop k) d' ∧ d'.fit ∧ d'.m.length < 700000 ∧ Grow StT 1 strCells w.heap.size (.slice na N.length nc) N wr ∧ Rw base g w d' wr) (fun v4 _ => N.length - (intOf v4).toNat)
    case atStart => exact ⟨0, d, rfl, by omega, hR.out, HF.out, hr0, HG.out, H2.out⟩
    case round =>
      obtain ⟨k, d', rfl, hk, hR', hf', hn', hG', hK'⟩ := hrel
      have HF' := Lib.hid hf'
      have HG' := Lib.hid hG'
      have HK' := Lib.hid hK'
      clear hf' hG' hK' hR HG HF H2
      by_cases hkn : k < N.length
      · rw [List.drop_eq_getElem_cons hkn, tidyL_step] at hR'
        obtain ⟨nb, nc2, hna, hnb⟩ := HG'.out.form (by omega)
        have hna2 : na = some ⟨nb, 0, none⟩ := by simp only [Value.slice.injEq] at hna; exact hna.1
        subst hna2
        have hrow := HG'.out.cells (fun _ => rfl) rfl k hkn
        rw [Nat.mul_one] at hrow
        have n0 : wr.cell? ⟨nb, k, none⟩ = some (.string (bs N[k])) := hrow 0 _ rfl
        have hnk := hkl.out _ (List.getElem_mem hkn)
        have HRm := Lib.hid (fun W (hW : Rw base g w d' W) => rremove_just hW.at_ HF'.out (by omega) N[k])
        have HRf := Lib.hid (remove_fit HF'.out N[k])
        have HRl := remove_length d' N[k]
        have htp := tmp_parts N[k]
        have hz := bs_size N[k]
        have q0 : decide ((k : Int) < (N.length : Int)) = true := decide_eq_true (by omega)
        have q0' : decide (k < N.length) = true := decide_eq_true hkn
        unfold strV ptrV at *
        unfold maxLen at hnk
        clear hrow hna hkl
        generalize N[k] = q at *
        by_cases t9 : 9 ≤ q.length
        case neg =>
          as_aux_lemma =>
          have q1 : decide (9 ≤ (q.length : Int)) = false := decide_eq_false (by omega)
          rw [decide_eq_false t9, Bool.false_and] at htp
          rw [htp, if_neg (by decide)] at hR'
          have hR' := Lib.hid hR'
          clear htp HRm HRf HRl t9
          go_wp2
          go_roundw
          case rel => exact ⟨k + 1, d', by go_num, by omega, hR'.out, HF'.out, hn', HG'.out, HK'.out⟩
          case measure => simp [intOf]; omega
        have q1 : decide (9 ≤ (q.length : Int)) = true := decide_eq_true (by omega)
        have hx1 : (bs q).extract 0 5 = bs (q.take 5) := by rw [bs_extract]; simp
        have hx2 : (bs q).extract (q.length - 4) q.length = bs (q.drop (q.length - 4)) := by
          rw [bs_extract, List.take_of_length_le (by rw [List.length_drop]; omega)]
        have hw4 : IntKind.i64.wrap ((q.length : Int) - 4) = ((q.length - 4 : Nat) : Int) := by rw [IntWalk.i64_in _ (by omega)]; omega
        have hw5 : (q.length : Int) - 4 = ((q.length - 4 : Nat) : Int) := by omega
        rw [decide_eq_true t9, Bool.true_and] at htp
        by_cases p1 : q.take 5 = keepP
        case neg =>
          as_aux_lemma =>
          have s1 : ((bs (q.take 5)).toList == [107, 101, 101, 112, 45]) = false := by rw [beq_eq_false_iff_ne, bs_toList]; exact p1
          rw [decide_eq_false p1, Bool.false_and] at htp
          rw [htp, if_neg (by decide)] at hR'
          have hR' := Lib.hid hR'
          clear htp HRm HRf HRl p1
          go_wp2
          go_roundw
          case rel => exact ⟨k + 1, d', by go_num, by omega, hR'.out, HF'.out, hn', HG'.out, HK'.out⟩
          case measure => simp [intOf]; omega
        have s1 : ((bs (q.take 5)).toList == [107, 101, 101, 112, 45]) = true := by rw [beq_iff_eq, bs_toList]; exact p1
        rw [decide_eq_true p1, Bool.true_and] at htp
        by_cases p2 : q.drop (q.length - 4) = newS
        case neg =>
          as_aux_lemma =>
          have s2 : ((bs (q.drop (q.length - 4))).toList == [46, 110, 101, 119]) = false := by rw [beq_eq_false_iff_ne, bs_toList]; exact p2
          rw [decide_eq_false p2] at htp
          rw [htp, if_neg (by decide)] at hR'
          have hR' := Lib.hid hR'
          clear htp HRm HRf HRl p1 p2
          go_wp2
          go_roundw
          case rel => exact ⟨k + 1, d', by go_num, by omega, hR'.out, HF'.out, hn', HG'.out, HK'.out⟩
          case measure => simp [intOf]; omega
        as_aux_lemma =>
        have s2 : ((bs (q.drop (q.length - 4))).toList == [46, 110, 101, 119]) = true := by rw [beq_iff_eq, bs_toList]; exact p2
        rw [decide_eq_true p2] at htp
        rw [htp, if_pos rfl] at hR'
        have hR' := Lib.hid hR'
        clear htp p1 p2
        generalize removeD d' q = r at *
        go_wp2_with (fail)
        clear hw4 hw5 hx1 hx2 s1 s2
        refine (HRm.out _ HK'.out).mono ?_
        rintro e w4 ⟨rfl, hD4, hA4⟩
        have HK4 : Hid (Rw base g w r.1 w4) := Lib.hid ⟨hD4, up_trans HK'.out.ap (just_up hA4 hle)⟩
        have HG4 := Lib.hid (HG'.out.away hA4 (fun i hi => by have : i = g := hi; omega))
        clear hD4 hA4 HG' HK' HRm
        by_cases z1 : r.2 = 0
        case neg =>
          have hR2 := Lib.hid (hR'.out.trans (thenD_bad z1 _))
          clear hR'
          have z1' : (r.2 == 0) = false := beq_eq_false_iff_ne.2 z1
          go_wp2
          go_ret
          rw [hR2.out]
          exact ⟨rfl, HK4.out.at_, HK4.out.ap⟩
        have hR2 := Lib.hid (hR'.out.trans (thenD_ok z1 _))
        rw [z1]
        clear z1 hR'
        go_wp2
        go_roundw
        case rel => exact ⟨k + 1, r.1, by go_num, by omega, hR2.out, HRf.out, by omega, HG4.out, HK4.out⟩
        case measure => simp [intOf]; omega
      · as_aux_lemma =>
        have q0 : decide ((k : Int) < (N.length : Int)) = false := decide_eq_false (by omega)
        have q0' : decide (k < N.length) = false := decide_eq_false hkn
        have hR2 : R = (d', 0) := by rw [hR', List.drop_eq_nil_of_le (by omega)]; rfl
        have hR2 := Lib.hid hR2
        clear hR'
        go_wp2
        go_ret
        rw [hR2.out]
        exact ⟨rfl, HK'.out.at_, HK'.out.ap⟩
end
end Go.Proofs.YtbaffabemomgjaaGreatDoor
