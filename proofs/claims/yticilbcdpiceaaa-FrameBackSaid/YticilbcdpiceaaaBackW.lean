/- The walk of the law FrameBack, for every input. Conditions: none. -/
import Derived.Test.YticilbcdpiceaaaBackP
namespace Go.Proofs.Yticilbcdpiceaaa
open Go.RowKit Go.WideShapes Go.ChangeShapes

/-- What is known of a list of texts that came in, its capacity too. -/
def IsStrsC (w : World) (v : Value) : Prop := ∃ (L : List ByteArray) (a : Option Addr) (cap : Nat), v = .slice a L.length cap ∧ L.length ≤ cap ∧ cap ≤ maxLen ∧ StrsAt w v L ∧ ∀ s ∈ L, s.size ≤ maxLen
theorem open_strsC {H : Type} {enc : TypeId × Value → H} {w : World} {r : Reach} {base : Nat} {v : Value} {d : DataW H} {p : List MemPlace}
    (hv : Value.okWide Try.prog w r base 42 v) (h : DataW.Trod enc Try.prog w 0 (fun _ => true) true 42 v d p) : IsStrsC w v := by
  obtain ⟨L, hS, hL, hs⟩ := open_strs hv h
  obtain ⟨a0, len, cap, rfl⟩ := okWide_slice Try.underlying42 hv
  have hS' := hS
  obtain ⟨a, c, he, hc⟩ := hS'
  simp only [Value.slice.injEq] at he
  obtain ⟨rfl, rfl, rfl⟩ := he
  obtain ⟨fuel, hf⟩ := h
  rcases open_strings Try.underlying42 Try.underlying9 cells9 hf with ⟨hcs, _⟩ | ⟨a, len', cap', ss, hcs, _, hl, hm, hss, _, hc, hs'⟩
  · simp [Value.cells] at hcs
    obtain ⟨_, h1, h2⟩ := hcs
    exact ⟨L, _, _, rfl, by rw [h1]; exact Nat.zero_le _, by rw [h2]; exact Nat.zero_le _, hS, hs⟩
  · simp [Value.cells] at hcs
    exact ⟨L, _, _, rfl, by omega, by omega, hS, hs⟩
theorem strs_take {w : World} {a : Option Addr} {cap : Nat} {L : List ByteArray} (h : StrsAt w (.slice a L.length cap) L) (k : Nat) (hk : k ≤ L.length) : StrsAt w (.slice a k cap) (L.take k) := by
  obtain ⟨a', c', he, hc⟩ := h
  simp only [Value.slice.injEq, true_and] at he
  obtain ⟨rfl, rfl⟩ := he
  refine ⟨a, cap, by rw [List.length_take, Nat.min_eq_left hk], fun i hi => ?_⟩
  have hi' : i < k := by simp at hi; omega
  obtain ⟨b, off, h1, h2⟩ := hc i (by omega)
  refine ⟨b, off, h1, ?_⟩
  rw [h2]
  simp [List.getD, hi']

/-- What the loop has when k texts are framed: the whole records up to A, and where they end. -/
def Wh (L : List ByteArray) (A k wh : Nat) : Prop := wh ≤ k ∧ sz L wh ≤ A ∧ (wh < k → A < sz L (wh + 1))
theorem Wh.start (L : List ByteArray) (A : Nat) : Wh L A 0 0 := ⟨by omega, by rw [sz_zero]; omega, fun h => by omega⟩
theorem Wh.hit {L : List ByteArray} {A k wh : Nat} (_h : Wh L A k wh) (hs : sz L (k + 1) ≤ A) : Wh L A (k + 1) (k + 1) := ⟨by omega, hs, fun h => by omega⟩
theorem Wh.miss {L : List ByteArray} {A k wh : Nat} (h : Wh L A k wh) (hs : A < sz L (k + 1)) : Wh L A (k + 1) wh := by
  obtain ⟨h1, h2, h3⟩ := h
  refine ⟨by omega, h2, fun _ => ?_⟩
  by_cases e : wh < k
  · exact h3 e
  · obtain rfl : wh = k := by omega
    exact hs

theorem sz_mono (L : List ByteArray) (i j : Nat) (h : i ≤ j) (hj : j ≤ L.length) : sz L i ≤ sz L j := by
  induction j with
  | zero => obtain rfl : i = 0 := by omega
            exact Nat.le_refl _
  | succ j ih =>
    by_cases e : i = j + 1
    · rw [e]; exact Nat.le_refl _
    · have := ih (by omega) (by omega)
      rw [sz_succ L j (by omega)]
      omega
theorem all_list (s : ByteArray) (M : List ByteArray) (u c : Nat) (hs : s.size ≤ 1099511627776) (h : allL s.data.toList = (bytesOf M, u, c)) (w : World) :
    Calls Try.prog 27 #[.string s] w fun e w' => ∃ v, e = .returned (.tuple #[v, .int .i64 u, .int .i64 c]) ∧ Below w.heap.size w w' ∧ StrsAt w' v M :=
  (all_any s hs w).mono fun e w' ⟨v, he, hb, ho⟩ => by
    rw [h] at he ho
    refine ⟨v, he, hb, ?_⟩
    have := strs_own ho
    rwa [bytesOf_back] at this
theorem same_yes (v1 v2 : Value) (M : List ByteArray) (W : World) (h1 : StrsAt W v1 M) (h2 : StrsAt W v2 M) (hM : M.length ≤ maxLen) :
    Calls Try.prog 25 #[v1, v2] W fun e w' => e = .returned (.bool true) ∧ Below W.heap.size W w' :=
  (same_any v1 v2 M M W h1 h2 hM hM).mono fun e w' ⟨he, hb⟩ => ⟨by rw [he, show sameB M M = true from decide_eq_true rfl], hb⟩

set_option maxRecDepth 100000 in
set_option maxHeartbeats 1600000 in
theorem back_walk (w : World) (a : Option Addr) (cap : Nat) (L : List ByteArray) (A : Nat) (hcap : L.length ≤ cap) (hcm : cap ≤ maxLen) (hS : StrsAt w (.slice a L.length cap) L) (hs : ∀ s ∈ L, s.size ≤ maxLen) (hL : L.length ≤ 30) (hA : A ≤ 9223372036854775807) :
    Calls Try.prog 12 #[.slice a L.length cap, .int .i64 A] w fun e w' => e = .returned (.bool true) ∧ Below w.heap.size w w' := by
  unfold maxLen at hcm
  have HS := Lib.hid hS
  have Hs := Lib.hid hs
  have hc : ∀ i, i < L.length → ∃ b off, a = some ⟨b, off, none⟩ ∧ w.cell? ⟨b, off + i, none⟩ = some (.string (L.getD i ⟨#[]⟩)) := by
    obtain ⟨a', c', he, hc⟩ := hS
    simp only [Value.slice.injEq, true_and] at he
    obtain ⟨rfl, rfl⟩ := he
    exact hc
  have Hc := Lib.hid hc
  have r0 : rowB (L.take 0) = ⟨#[]⟩ := by simp [rowB, bytesOf, rowL]
  have R0 := Lib.hid r0
  clear hS hs hc r0
  go_enter Try.func12, Try.ntmps12
  go_wp2
  go_loopw [5, 6, 7, 8] (fun o wv ev i wr => ∃ k wh : Nat, i = .int .i64 k ∧ o = .string (rowB (L.take k)) ∧ wv = .int .i64 wh ∧ ev = .int .i64 (sz L wh) ∧ k ≤ L.length ∧ Wh L A k wh ∧ sz L k ≤ 2008 * k ∧ sz L wh ≤ 2008 * k ∧
    (∀ j (hj : j < L.length), j < k → 0 < (L[j]).size ∧ (L[j]).size ≤ 2000) ∧ Grew w wr) (fun _ _ _ i _ => L.length - (intOf i).toNat)
  case atStart => exact ⟨0, 0, rfl, by rw [R0.out], rfl, by rw [sz_zero]; rfl, by omega, Wh.start _ _, by rw [sz_zero]; omega, by rw [sz_zero]; omega, fun j _ hj => by omega, Grew.refl _⟩
  case round =>
    obtain ⟨k, wh, rfl, rfl, rfl, rfl, hk, hwh, hsz, hszw, hgood, hb⟩ := hrel
    have Hgood := Lib.hid hgood
    have Hwh := Lib.hid hwh
    have hwk : wh ≤ k := hwh.1
    clear hgood hwh
    by_cases hlt : k < L.length
    · obtain ⟨b1, o1, rfl, hx1⟩ := Hc.out k hlt
      have hy1 := hb.cell hx1
      have hga : L.getD k ⟨#[]⟩ = L[k] := by simp [List.getD, hlt]
      rw [hga] at hy1
      have hxm := Hs.out (L[k]) (List.getElem_mem hlt)
      have hsn := Lib.hid (rowB_snoc L k hlt)
      have hss := sz_succ L k hlt
      have hgood2 := Lib.hid (show (0 < (L[k]).size ∧ (L[k]).size ≤ 2000) → ∀ j (hj : j < L.length), j < k + 1 → 0 < (L[j]).size ∧ (L[j]).size ≤ 2000 from fun hx j hj hjk => by
        by_cases e : j = k
        · subst e; exact hx
        · exact Hgood.out j hj (by omega))
      clear hx1 hga
      generalize L[k] = x at *
      have hxm' := hxm
      unfold maxLen at hxm'
      by_cases h0 : x.size = 0
      · as_aux_lemma =>
        obtain rfl := isNone x h0
        clear h0 hxm hxm' hgood2 hss
        go_wp2_with fail
        refine (awake4 _).mono ?_
        rintro e w1 ⟨rfl, hb1⟩
        go_wp2
        go_ret
        exact ⟨rfl, hb.trans hb1⟩
      have he := notEmpty x (by omega)
      by_cases h2000 : 2000 < x.size
      · as_aux_lemma =>
        clear hgood2 hss
        go_wp2_with fail
        refine (awake4 _).mono ?_
        rintro e w1 ⟨rfl, hb1⟩
        go_wp2
        go_ret
        exact ⟨rfl, hb.trans hb1⟩
      · as_aux_lemma =>
        have hgood3 := Lib.hid (hgood2.out ⟨by omega, by omega⟩)
        have hfs : (ByteArray.mk (frameL x.data.toList).toArray).size = 8 + x.size := frame_length x.data.toList
        have hs1 : (rowB (L.take k)).size ≤ 2008 * k := hsz
        have Hss := Lib.hid hss
        clear hss hgood2
        go_wp2_with fail
        refine (frame_good x (by omega) (by omega) _).mono ?_
        rintro e w1 ⟨rfl, hb1⟩
        have hy2 := Grew.cell hb1 hy1
        have hE := hsn.out
        generalize ByteArray.mk (frameL x.data.toList).toArray = F at *
        have hRk : sz L k = (rowB (L.take k)).size := rfl
        have hRk1 : sz L (k + 1) = (rowB (L.take (k + 1))).size := rfl
        have hnew : (rowB (L.take (k + 1))).size ≤ 2008 * (k + 1) := by rw [← hRk1, Hss.out]; omega
        have HR1 := Lib.hid hRk1
        clear hRk hRk1
        by_cases hcut : (rowB (L.take (k + 1))).size ≤ A
        · have hW := Lib.hid (Hwh.out.hit (by rw [HR1.out]; exact hcut))
          go_wp2
          go_roundw
          case rel => exact ⟨k + 1, k + 1, by go_num, rfl, by go_num, by rw [HR1.out], by omega, hW.out, by rw [HR1.out]; exact hnew, by rw [HR1.out]; exact hnew, hgood3.out, hb.trans hb1⟩
          case measure => simp [intOf]; omega
        · have hW := Lib.hid (Hwh.out.miss (by rw [HR1.out]; omega))
          go_wp2
          go_roundw
          case rel => exact ⟨k + 1, wh, by go_num, rfl, rfl, rfl, by omega, hW.out, by rw [HR1.out]; exact hnew, by omega, hgood3.out, hb.trans hb1⟩
          case measure => simp [intOf]; omega
    · obtain rfl : k = L.length := by omega
      have hfit := Lib.hid (show fits L from fun j hj => Hgood.out j hj hj)
      rw [List.take_length]
      have hRs : (rowB L).size = sz L L.length := by unfold sz; rw [List.take_length]
      have hR : (rowB L).size ≤ 60240 := by omega
      have HR := Lib.hid hRs
      have A1 := Lib.hid (all_list (rowB L) L (sz L L.length) 0 (by omega) (all_whole L hfit.out))
      have S1 := Lib.hid (fun v W h1 h2 => same_yes v (.slice a L.length cap) L W h1 h2 (by unfold maxLen; omega))
      have S2 := Lib.hid (fun v W h1 h2 => same_yes v (.slice a wh cap) (L.take wh) W h1 h2 (by unfold maxLen; simp; omega))
      have hwc : wh ≤ cap := by omega
      by_cases hw : wh = L.length
      · have HA : sz L L.length ≤ A := by have := Hwh.out.2.1; rwa [hw] at this
        have hext : (rowB L).extract 0 (rowB L).size = rowB L := by simp
        have Htk := Lib.hid (show L.take wh = L by rw [hw, List.take_length])
        subst hw
        as_aux_lemma =>
        clear hRs hszw hsz Hgood Hwh Hc hlt
        have hcut : (rowB L).size ≤ A := by rw [HR.out]; exact HA
        clear HA
        by_cases hmin : (rowB L).size < A
        · as_aux_lemma =>
          go_wp2_with fail
          refine (A1.out _).mono ?_
          rintro e w1 ⟨v1, rfl, hb1, ho1⟩
          rw [← HR.out]
          have hb11 := hb.trans hb1
          have X1 := Lib.hid (S1.out v1 w1 ho1 (HS.out.grew hb11))
          go_wp2_with fail
          refine X1.out.mono ?_
          rintro e w2 ⟨rfl, hb2⟩
          have hb12 := hb11.trans hb2
          go_wp2_with fail
          refine (A1.out _).mono ?_
          rintro e w3 ⟨v2, rfl, hb3, ho3⟩
          rw [← HR.out]
          have hb13 := hb12.trans hb3
          have X2 := Lib.hid (S1.out v2 w3 ho3 (HS.out.grew hb13))
          go_wp2_with fail
          refine X2.out.mono ?_
          rintro e w4 ⟨rfl, hb4⟩
          have hb14 := hb13.trans hb4
          go_wp2_with fail
          refine (awake4 _).mono ?_
          rintro e w5 ⟨rfl, hb5⟩
          go_wp2
          go_ret
          exact ⟨rfl, hb14.trans hb5⟩
        · as_aux_lemma =>
          obtain rfl : A = (rowB L).size := by omega
          go_wp2_with fail
          refine (A1.out _).mono ?_
          rintro e w1 ⟨v1, rfl, hb1, ho1⟩
          rw [← HR.out]
          have hb11 := hb.trans hb1
          have X1 := Lib.hid (S1.out v1 w1 ho1 (HS.out.grew hb11))
          go_wp2_with fail
          refine X1.out.mono ?_
          rintro e w2 ⟨rfl, hb2⟩
          have hb12 := hb11.trans hb2
          go_wp2_with fail
          refine (A1.out _).mono ?_
          rintro e w3 ⟨v2, rfl, hb3, ho3⟩
          rw [← HR.out]
          have hb13 := hb12.trans hb3
          have X2 := Lib.hid (S1.out v2 w3 ho3 (HS.out.grew hb13))
          go_wp2_with fail
          refine X2.out.mono ?_
          rintro e w4 ⟨rfl, hb4⟩
          have hb14 := hb13.trans hb4
          go_wp2_with fail
          refine (awake4 _).mono ?_
          rintro e w5 ⟨rfl, hb5⟩
          go_wp2
          go_ret
          exact ⟨rfl, hb14.trans hb5⟩
      · have hAlt := Hwh.out.2.2 (by omega)
        have hAle := Hwh.out.2.1
        have hmono := sz_mono L (wh + 1) L.length (by omega) (Nat.le_refl _)
        have hcut : A < (rowB L).size := by omega
        have hsub := (show allL ((rowB L).extract 0 A).data.toList = (bytesOf (L.take wh), sz L wh, if A = sz L wh then 0 else 10) by
          rw [Lib.extract_data, List.drop_zero, Nat.sub_zero]
          exact all_begin L hfit.out wh A (by omega) hAle hAlt)
        have A2 := Lib.hid (all_list ((rowB L).extract 0 A) (L.take wh) (sz L wh) _ (by simp; omega) hsub)
        have St := Lib.hid (fun W h => strs_take (w := W) (a := a) (cap := cap) (L := L) h wh (by omega))
        clear hsub hAlt hmono hRs hszw hsz Hgood Hwh Hc hlt
        by_cases hz : A = sz L wh
        · as_aux_lemma =>
          have A3 := A2.out
          rw [if_pos hz] at A3
          have hE := Lib.hid A3
          have h3 : sz L wh ≤ 60240 := by omega
          clear A2 A3 hAle
          subst hz
          go_wp2_with fail
          refine (A1.out _).mono ?_
          rintro e w1 ⟨v1, rfl, hb1, ho1⟩
          rw [← HR.out]
          have hb11 := hb.trans hb1
          have X1 := Lib.hid (S1.out v1 w1 ho1 (HS.out.grew hb11))
          go_wp2_with fail
          refine X1.out.mono ?_
          rintro e w2 ⟨rfl, hb2⟩
          have hb12 := hb11.trans hb2
          go_wp2_with fail
          refine (hE.out _).mono ?_
          rintro e w3 ⟨v2, rfl, hb3, ho3⟩
          have hb13 := hb12.trans hb3
          have X2 := Lib.hid (S2.out v2 w3 ho3 (St.out _ (HS.out.grew hb13)))
          go_wp2_with fail
          refine X2.out.mono ?_
          rintro e w4 ⟨rfl, hb4⟩
          have hb14 := hb13.trans hb4
          go_wp2_with fail
          refine (awake4 _).mono ?_
          rintro e w5 ⟨rfl, hb5⟩
          go_wp2
          go_ret
          exact ⟨rfl, hb14.trans hb5⟩
        · as_aux_lemma =>
          have A3 := A2.out
          rw [if_neg hz] at A3
          have hE := Lib.hid A3
          have h3 : ((A : Int) == (sz L wh : Int)) = false := beq_eq_false_iff_ne.2 (by omega)
          clear A2 A3 hAle hz
          go_wp2_with fail
          refine (A1.out _).mono ?_
          rintro e w1 ⟨v1, rfl, hb1, ho1⟩
          rw [← HR.out]
          have hb11 := hb.trans hb1
          have X1 := Lib.hid (S1.out v1 w1 ho1 (HS.out.grew hb11))
          go_wp2_with fail
          refine X1.out.mono ?_
          rintro e w2 ⟨rfl, hb2⟩
          have hb12 := hb11.trans hb2
          go_wp2_with fail
          refine (hE.out _).mono ?_
          rintro e w3 ⟨v2, rfl, hb3, ho3⟩
          have hb13 := hb12.trans hb3
          have X2 := Lib.hid (S2.out v2 w3 ho3 (St.out _ (HS.out.grew hb13)))
          go_wp2_with fail
          refine X2.out.mono ?_
          rintro e w4 ⟨rfl, hb4⟩
          have hb14 := hb13.trans hb4
          go_wp2_with fail
          refine (awake4 _).mono ?_
          rintro e w5 ⟨rfl, hb5⟩
          go_wp2
          go_ret
          exact ⟨rfl, hb14.trans hb5⟩

set_option maxRecDepth 100000 in
set_option maxHeartbeats 800000 in
theorem back_out (w : World) (a : Option Addr) (cap : Nat) (n : Nat) (A : Int) (hn : n ≤ cap) (hcm : cap ≤ maxLen) (h : 30 < n ∨ (n ≤ 30 ∧ A < 0)) :
    Calls Try.prog 12 #[.slice a n cap, .int .i64 A] w fun e w' => e = .returned (.bool true) ∧ Below w.heap.size w w' := by
  unfold maxLen at hcm
  rcases h with h | ⟨h, h2⟩
  all_goals
    go_enter Try.func12, Try.ntmps12
    go_wp2_with fail
    refine (awake4 _).mono ?_
    rintro e w1 ⟨rfl, hb1⟩
    go_wp2
    go_ret
    exact ⟨rfl, hb1⟩

theorem frameBack_walk (w : World) (v : Value) (A : Int) (hv : IsStrsC w v) (hA : (Lit.int .i64 A).wf = true) : Calls Try.prog 12 #[v, .int .i64 A] w fun e w' => e = .returned (.bool true) ∧ Below w.heap.size w w' := by
  obtain ⟨L, a, cap, rfl, h1, h2, h3, h4⟩ := hv
  obtain ⟨b0, b1⟩ := bounds_i64 hA
  by_cases hn : 30 < L.length
  · exact back_out w a cap L.length A h1 h2 (.inl hn)
  · by_cases h0 : A < 0
    · exact back_out w a cap L.length A h1 h2 (.inr ⟨by omega, h0⟩)
    · obtain ⟨n, rfl⟩ := Int.eq_ofNat_of_zero_le (show 0 ≤ A by omega)
      exact back_walk w a cap L n h1 h2 h3 h4 (by omega) (by omega)
end Go.Proofs.Yticilbcdpiceaaa
