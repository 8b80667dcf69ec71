/- The walk of the law KeepLasts. Conditions: as each theorem says. -/
import Derived.Test.YtbaffabemomgjaaDoorKepU
namespace Go.Proofs.YtbaffabemomgjaaDoor
open Go.RowKit

def xN : Bys := [120]
theorem xN_right : rightN xN = true := by decide
set_option maxRecDepth 100000 in
set_option maxHeartbeats 6400000 in
theorem lasts_law (L : List Bys) (A ks : List Int) (la aa ka : Option Addr) (lc ac kc : Nat) (w : World) (hL : RowsAt 1 strCells w (.slice la L.length lc) L) (hA : RowsAt 1 intCells w (.slice aa A.length ac) A) (hK : RowsAt 1 intCells w (.slice ka ks.length kc) ks)
    (hLl : L.length ≤ maxLen) (hAl : A.length ≤ maxLen) (hkc : ks.length ≤ kc) (hkm : kc ≤ maxLen) (hLx : ∀ x ∈ L, x.length ≤ maxLen) (hAx : ∀ n ∈ A, n < 9223372036854775808) :
    Calls Tryd.prog 5 #[.slice la L.length lc, .slice aa A.length ac, .slice ka ks.length kc] w fun e w' => e = .returned (.bool true) ∧ Below w.heap.size w w' := by
  have HN := Lib.hid (new_any 1048576 (by decide) (by decide) w)
  have HkL := Lib.hid (fun w2 (h : Below w.heap.size w w2) => hL.grew h)
  have HkA := Lib.hid (fun w2 (h : Below w.heap.size w w2) => hA.grew h)
  have HkK := Lib.hid (fun w2 (h : Below w.heap.size w w2) => hK.grew h)
  have Hkc := Lib.hid hkc
  have Hkm := Lib.hid hkm
  have HLx := Lib.hid hLx
  have HAx := Lib.hid hAx
  unfold ptrV at HN
  unfold maxLen at hLl hAl
  have hkl : ks.length ≤ 2 ^ 63 - 1 := by unfold maxLen at hkm; omega
  clear hL hA hK hkc hkm hLx hAx
  by_cases hbig : 15 < L.length ∨ 20 < ks.length
  · have q2 : decide (15 < (L.length : Int)) = true ∨ (decide (15 < (L.length : Int)) = false ∧ decide (20 < (ks.length : Int)) = true) := by
      by_cases h15 : 15 < L.length
      · exact .inl (decide_eq_true (by omega))
      · exact .inr ⟨decide_eq_false (by omega), decide_eq_true (by omega)⟩
    clear hbig
    rcases q2 with q2 | ⟨q2, q3⟩
    · as_aux_lemma =>
      go_enter Tryd.func5, Tryd.ntmps5
      go_wp2_with (fail)
      refine HN.out.mono ?_
      rintro e w1 ⟨rfl, hD, hB⟩
      clear hD
      go_wp2_with (go_at_call 8; refine (kawake_any _).mono ?_; rintro e w9 ⟨rfl, hb9⟩)
      go_ret
      exact ⟨rfl, hB.trans (hb9.mono hB.size)⟩
    · as_aux_lemma =>
      go_enter Tryd.func5, Tryd.ntmps5
      go_wp2_with (fail)
      refine HN.out.mono ?_
      rintro e w1 ⟨rfl, hD, hB⟩
      clear hD
      go_wp2_with (go_at_call 8; refine (kawake_any _).mono ?_; rintro e w9 ⟨rfl, hb9⟩)
      go_ret
      exact ⟨rfl, hB.trans (hb9.mono hB.size)⟩
  have q2 : decide (15 < (L.length : Int)) = false := decide_eq_false (by omega)
  have q3 : decide (20 < (ks.length : Int)) = false := decide_eq_false (by omega)
  have hL15 : L.length ≤ 15 := by omega
  clear hbig
  go_enter Tryd.func5, Tryd.ntmps5
  go_wp2_with (fail)
  refine HN.out.mono ?_
  rintro e w1 ⟨rfl, hD, hB⟩
  have H1 : Hid (DkSt w (w.heap.size + 1) w.heap.size (newD 1048576) w1) := Lib.hid (DkSt.made w w (Nat.le_refl _) (Below.refl _ _) hD hB)
  clear hD hB HN
  go_wp2_with (fail)
  go_loopw [9, 10] (fun v9 v10 wr => ∃ (i : Nat) (d : Dk) (kept : Option Bys), v10 = .int .i64 (i : Int) ∧ i ≤ L.length ∧ v9 = .string (bs (kept.getD [])) ∧ Kd xN [] kept d ∧ okK kept ∧ d.armed = 0 ∧ DkSt w (w.heap.size + 1) w.heap.size d wr) (fun _ v10 _ => L.length - (intOf v10).toNat)
  case atStart => exact ⟨0, _, none, rfl, by omega, rfl, kd_new xN, fun b hb => (by cases hb), rfl, H1.out⟩
  case round =>
    obtain ⟨i, d, kept, rfl, hi, rfl, hKd, hok, harm, hS⟩ := hrel
    have HKd := Lib.hid hKd
    have Hok := Lib.hid hok
    have Ham := Lib.hid harm
    have HS := Lib.hid hS
    clear hKd hok harm hS H1
    by_cases h : i < L.length
    case neg =>
      as_aux_lemma =>
      have q0 : decide ((i : Int) < (L.length : Int)) = false := decide_eq_false (by omega)
      have q0' : decide (i < L.length) = false := decide_eq_false h
      obtain ⟨e1, K7, e2⟩ := HKd.out.tidy (ko_nil xN) xN_right Ham.out
      have e3 := HKd.out.tidy_names (ko_nil xN) xN_right Ham.out
      have hle : (tidyD d).1.m.length ≤ 1 := by rw [e3]; cases kept <;> simp
      have KT := Lib.hid (fun (W : World) (hW : DkAt (w.heap.size + 1) w.heap.size d W) => tidy_any hW HKd.out.fit (by have := (HKd.out.sizes (ko_nil xN) xN_right Hok.out).2; omega))
      rw [e1] at KT
      have KN := Lib.hid (fun (W : World) (hW : DkAt (w.heap.size + 1) w.heap.size (tidyD d).1 W) => names_any hW K7.fit (by omega))
      have hnl : (namesD (tidyD d).1).length ≤ 1 := by unfold namesD; rw [if_neg (by rw [K7.live]; decide), List.length_map]; exact hle
      generalize (tidyD d).1 = d7 at *
      have q5 : decide (((namesD d7).length : Int) ≤ 1) = true := decide_eq_true (by omega)
      unfold ptrV at KT KN
      clear e1 e2 e3 hle K7 h hnl
      go_wp2_with (fail)
      refine (KT.out _ HS.out.at_).mono ?_
      rintro e w2 hk
      obtain ⟨rfl, hS⟩ := HS.out.done hk
      have HS2 := Lib.hid hS
      clear hk hS HS KT
      go_wp2_with (fail)
      refine (KN.out _ HS2.out.at_).mono ?_
      rintro e w3 ⟨v, rfl, hG, hb⟩
      have HS3 := Lib.hid (HS2.out.grew hb)
      obtain ⟨na, nc, hv⟩ := hG.slice
      subst hv
      clear hG hb KN HS2
      go_wp2_with (go_at_call 8; refine (kawake_any _).mono ?_; rintro e w4 ⟨rfl, hb9⟩)
      go_ret
      exact ⟨rfl, (HS3.out.grew hb9).bel⟩
    have q0 : decide ((i : Int) < (L.length : Int)) = true := decide_eq_true (by omega)
    have q0' : decide (i < L.length) = true := decide_eq_true h
    have HC := Lib.hid (fun (W : World) (hW : Below w.heap.size w W) => (HkL.out W hW).get i h)
    obtain ⟨bb, off, hab, hrg⟩ := (HkL.out wr HS.out.bel).get i h
    have hxm := HLx.out _ (List.getElem_mem h)
    have hxz := bs_size L[i]
    generalize L[i] = x at *
    subst hab
    have HCx : Hid (∀ W, Below w.heap.size w W → W.cell? ⟨bb, off + i, none⟩ = some (.string (bs x))) := Lib.hid (fun W hW => by
      obtain ⟨b2, o2, e2, r2⟩ := HC.out W hW
      obtain ⟨rfl, rfl⟩ : bb = b2 ∧ off = o2 := by simpa using e2
      have := r2 0 _ rfl
      simpa [strV] using this)
    have c0 := HCx.out wr HS.out.bel
    clear hrg HC
    unfold maxLen at hxm
    by_cases hx1 : x.length < 1
    · as_aux_lemma =>
      have q4 : decide ((x.length : Int) < 1) = true := decide_eq_true (by omega)
      clear hx1
      go_wp2_with (go_at_call 8; refine (kawake_any _).mono ?_; rintro e w9 ⟨rfl, hb9⟩)
      go_ret
      exact ⟨rfl, (HS.out.grew hb9).bel⟩
    have q4 : decide ((x.length : Int) < 1) = false := decide_eq_false (by omega)
    by_cases hx2 : 500 < x.length
    · as_aux_lemma =>
      have q5 : decide (500 < (x.length : Int)) = true := decide_eq_true (by omega)
      clear hx1 hx2
      go_wp2_with (go_at_call 8; refine (kawake_any _).mono ?_; rintro e w9 ⟨rfl, hb9⟩)
      go_ret
      exact ⟨rfl, (HS.out.grew hb9).bel⟩
    have q5 : decide (500 < (x.length : Int)) = false := decide_eq_false (by omega)
    have Hx1 := Lib.hid (show 1 ≤ x.length by omega)
    have Hx2 := Lib.hid (show x.length ≤ 500 by omega)
    clear hx1 hx2
    by_cases ha : i < A.length
    case neg =>
      as_aux_lemma =>
      have q6 : decide ((i : Int) < (A.length : Int)) = false := decide_eq_false (by omega)
      have q6' : decide (i < A.length) = false := decide_eq_false ha
      have K1 := HKd
      generalize d = d1 at *
      have HRd := Lib.hid (K1.out.round (ko_nil xN) xN_right Hok.out Hx1.out Hx2.out ks)
      have KS := Lib.hid (fun (W : World) (hW : DkAt (w.heap.size + 1) w.heap.size d1 W) => save_any hW K1.out.fit (by have := (K1.out.sizes (ko_nil xN) xN_right Hok.out).2; omega) xN x (by decide) (by have := Hx2.out; unfold maxLen; omega))
      have KC := Lib.hid (fun (W : World) (hW : DkAt (w.heap.size + 1) w.heap.size (saveD d1 xN x).1 W) (hB : Below w.heap.size w W) => crash_any hW (save_fit K1.out.fit xN x) (by have := save_length d1 xN x; have := (K1.out.sizes (ko_nil xN) xN_right Hok.out).2; omega) ks ka kc (HkK.out W hB) Hkc.out Hkm.out)
      have KL := Lib.hid (fun (W : World) (d6 : Dk) (hf6 : d6.fit) (hW : DkAt (w.heap.size + 1) w.heap.size d6 W) => load_any hW hf6 xN (by decide))
      unfold strV ptrV at KS
      unfold ptrV at KC
      unfold LoadSaid strV ptrV at KL
      have exN : bs xN = ⟨#[120]⟩ := rfl
      rw [exN] at KS
      simp only [exN] at KL
      clear exN
      generalize saveD d1 xN x = r at *
      obtain ⟨d5, z5⟩ := r
      simp only at KS KC HRd
      go_wp2_with (fail)
      refine (KS.out _ HS.out.at_).mono ?_
      rintro e w4 hk
      obtain ⟨rfl, hS⟩ := HS.out.done hk
      have HS4 := Lib.hid hS
      clear hk hS HS KS c0
      rcases HRd.out with ⟨z0, K6⟩ | ⟨z0, K6⟩
      · subst z0
        have K6 := Lib.hid K6
        have hok6 : okK (some x) := fun b hb => by rw [← Option.some.inj hb]; exact ⟨Hx1.out, Hx2.out⟩
        have hload := K6.out.load xN_right hok6
        have hok6 := Lib.hid hok6
        have ha6 := Lib.hid (crash_armed d5 ks)
        have KL := Lib.hid (fun W => KL.out W _ K6.out.fit)
        rw [hload] at KL
        generalize crashD d5 ks = d6 at *
        clear HRd hload
        go_wp2_with (fail)
        refine (KC.out _ HS4.out.at_ HS4.out.bel).mono ?_
        rintro e w5 hk
        obtain ⟨rfl, hS⟩ := HS4.out.done hk
        have HS5 := Lib.hid hS
        clear hk hS HS4 KC
        simp only [Option.getD_some, Option.isSome_some, if_true] at KL
        go_wp2_with (fail)
        refine (KL.out _ HS5.out.at_).mono ?_
        rintro e w6 ⟨rfl, hb6⟩
        have HS6 := Lib.hid (HS5.out.grew hb6)
        have c0 := HCx.out w6 HS6.out.bel
        have s1 : ((bs x).toList == (bs x).toList) = true := beq_self_eq_true _
        have s2 : ((bs x).toList != (bs x).toList) = false := by rw [bne, s1]; rfl
        obtain ⟨q, hq⟩ : ∃ q : Bys, q = kept.getD [] := ⟨_, rfl⟩
        rw [← hq]
        clear hb6 HS5 KL hq
        cases s3 : ((bs x).toList == (bs q).toList) with
        | true =>
          have s4 : ((bs x).toList != (bs q).toList) = false := by rw [bne, s3]; rfl
          go_wp2
          go_roundw
          case rel => exact ⟨i + 1, d6, some x, by go_num, by omega, rfl, K6.out, hok6.out, ha6.out, HS6.out⟩
          case measure => simp [intOf]; omega
        | false =>
          have s4 : ((bs x).toList != (bs q).toList) = true := by rw [bne, s3]; rfl
          go_wp2
          go_roundw
          case rel => exact ⟨i + 1, d6, some x, by go_num, by omega, rfl, K6.out, hok6.out, ha6.out, HS6.out⟩
          case measure => simp [intOf]; omega
      · subst z0
        have K6 := Lib.hid K6
        have hok6 : okK kept := Hok.out
        have hload := K6.out.load xN_right hok6
        have hok6 := Lib.hid hok6
        have ha6 := Lib.hid (crash_armed d5 ks)
        have KL := Lib.hid (fun W => KL.out W _ K6.out.fit)
        rw [hload] at KL
        generalize crashD d5 ks = d6 at *
        clear HRd hload
        go_wp2_with (fail)
        refine (KC.out _ HS4.out.at_ HS4.out.bel).mono ?_
        rintro e w5 hk
        obtain ⟨rfl, hS⟩ := HS4.out.done hk
        have HS5 := Lib.hid hS
        clear hk hS HS4 KC
        have s0 : (bs ([] : Bys)).toList.isEmpty = true := by rw [bs_toList]; rfl
        cases kept with
        | none =>
          simp only [Option.getD_none, Option.isSome_none, Bool.false_eq_true, if_false] at KL ⊢
          go_wp2_with (fail)
          refine (KL.out _ HS5.out.at_).mono ?_
          rintro e w6 ⟨rfl, hb6⟩
          have HS6 := Lib.hid (HS5.out.grew hb6)
          have s1 : ((bs ([] : Bys)).toList == (bs ([] : Bys)).toList) = true := beq_self_eq_true _
          clear hb6 HS5 KL
          generalize hq : bs ([] : Bys) = q at *
          go_wp2
          go_roundw
          case rel => exact ⟨i + 1, d6, none, by go_num, by omega, by rw [← hq]; rfl, K6.out, hok6.out, ha6.out, HS6.out⟩
          case measure => simp [intOf]; omega
        | some q =>
          simp only [Option.getD_some, Option.isSome_some, if_true] at KL ⊢
          go_wp2_with (fail)
          refine (KL.out _ HS5.out.at_).mono ?_
          rintro e w6 ⟨rfl, hb6⟩
          have HS6 := Lib.hid (HS5.out.grew hb6)
          have s1 : ((bs q).toList == (bs q).toList) = true := beq_self_eq_true _
          clear hb6 HS5 KL
          go_wp2
          go_roundw
          case rel => exact ⟨i + 1, d6, some q, by go_num, by omega, rfl, K6.out, hok6.out, ha6.out, HS6.out⟩
          case measure => simp [intOf]; omega
    have q6 : decide ((i : Int) < (A.length : Int)) = true := decide_eq_true (by omega)
    have q6' : decide (i < A.length) = true := decide_eq_true ha
    obtain ⟨ab, ao, haa, har⟩ := (HkA.out wr HS.out.bel).get i ha
    have hn := HAx.out _ (List.getElem_mem ha)
    generalize A[i] = n at *
    subst haa
    have a0 : wr.cell? ⟨ab, ao + i, none⟩ = some (.int .i64 n) := by have := har 0 _ rfl; simpa using this
    clear har
    by_cases hn0 : 0 < n
    case neg =>
      as_aux_lemma =>
      have q7 : decide (0 < n) = false := decide_eq_false hn0
      have K1 := HKd
      clear hn hn0
      generalize d = d1 at *
      have HRd := Lib.hid (K1.out.round (ko_nil xN) xN_right Hok.out Hx1.out Hx2.out ks)
      have KS := Lib.hid (fun (W : World) (hW : DkAt (w.heap.size + 1) w.heap.size d1 W) => save_any hW K1.out.fit (by have := (K1.out.sizes (ko_nil xN) xN_right Hok.out).2; omega) xN x (by decide) (by have := Hx2.out; unfold maxLen; omega))
      have KC := Lib.hid (fun (W : World) (hW : DkAt (w.heap.size + 1) w.heap.size (saveD d1 xN x).1 W) (hB : Below w.heap.size w W) => crash_any hW (save_fit K1.out.fit xN x) (by have := save_length d1 xN x; have := (K1.out.sizes (ko_nil xN) xN_right Hok.out).2; omega) ks ka kc (HkK.out W hB) Hkc.out Hkm.out)
      have KL := Lib.hid (fun (W : World) (d6 : Dk) (hf6 : d6.fit) (hW : DkAt (w.heap.size + 1) w.heap.size d6 W) => load_any hW hf6 xN (by decide))
      unfold strV ptrV at KS
      unfold ptrV at KC
      unfold LoadSaid strV ptrV at KL
      have exN : bs xN = ⟨#[120]⟩ := rfl
      rw [exN] at KS
      simp only [exN] at KL
      clear exN
      generalize saveD d1 xN x = r at *
      obtain ⟨d5, z5⟩ := r
      simp only at KS KC HRd
      go_wp2_with (fail)
      refine (KS.out _ HS.out.at_).mono ?_
      rintro e w4 hk
      obtain ⟨rfl, hS⟩ := HS.out.done hk
      have HS4 := Lib.hid hS
      clear hk hS HS KS c0
      rcases HRd.out with ⟨z0, K6⟩ | ⟨z0, K6⟩
      · subst z0
        have K6 := Lib.hid K6
        have hok6 : okK (some x) := fun b hb => by rw [← Option.some.inj hb]; exact ⟨Hx1.out, Hx2.out⟩
        have hload := K6.out.load xN_right hok6
        have hok6 := Lib.hid hok6
        have ha6 := Lib.hid (crash_armed d5 ks)
        have KL := Lib.hid (fun W => KL.out W _ K6.out.fit)
        rw [hload] at KL
        generalize crashD d5 ks = d6 at *
        clear HRd hload
        go_wp2_with (fail)
        refine (KC.out _ HS4.out.at_ HS4.out.bel).mono ?_
        rintro e w5 hk
        obtain ⟨rfl, hS⟩ := HS4.out.done hk
        have HS5 := Lib.hid hS
        clear hk hS HS4 KC
        simp only [Option.getD_some, Option.isSome_some, if_true] at KL
        go_wp2_with (fail)
        refine (KL.out _ HS5.out.at_).mono ?_
        rintro e w6 ⟨rfl, hb6⟩
        have HS6 := Lib.hid (HS5.out.grew hb6)
        have c0 := HCx.out w6 HS6.out.bel
        have s1 : ((bs x).toList == (bs x).toList) = true := beq_self_eq_true _
        have s2 : ((bs x).toList != (bs x).toList) = false := by rw [bne, s1]; rfl
        obtain ⟨q, hq⟩ : ∃ q : Bys, q = kept.getD [] := ⟨_, rfl⟩
        rw [← hq]
        clear hb6 HS5 KL hq
        cases s3 : ((bs x).toList == (bs q).toList) with
        | true =>
          have s4 : ((bs x).toList != (bs q).toList) = false := by rw [bne, s3]; rfl
          go_wp2
          go_roundw
          case rel => exact ⟨i + 1, d6, some x, by go_num, by omega, rfl, K6.out, hok6.out, ha6.out, HS6.out⟩
          case measure => simp [intOf]; omega
        | false =>
          have s4 : ((bs x).toList != (bs q).toList) = true := by rw [bne, s3]; rfl
          go_wp2
          go_roundw
          case rel => exact ⟨i + 1, d6, some x, by go_num, by omega, rfl, K6.out, hok6.out, ha6.out, HS6.out⟩
          case measure => simp [intOf]; omega
      · subst z0
        have K6 := Lib.hid K6
        have hok6 : okK kept := Hok.out
        have hload := K6.out.load xN_right hok6
        have hok6 := Lib.hid hok6
        have ha6 := Lib.hid (crash_armed d5 ks)
        have KL := Lib.hid (fun W => KL.out W _ K6.out.fit)
        rw [hload] at KL
        generalize crashD d5 ks = d6 at *
        clear HRd hload
        go_wp2_with (fail)
        refine (KC.out _ HS4.out.at_ HS4.out.bel).mono ?_
        rintro e w5 hk
        obtain ⟨rfl, hS⟩ := HS4.out.done hk
        have HS5 := Lib.hid hS
        clear hk hS HS4 KC
        have s0 : (bs ([] : Bys)).toList.isEmpty = true := by rw [bs_toList]; rfl
        cases kept with
        | none =>
          simp only [Option.getD_none, Option.isSome_none, Bool.false_eq_true, if_false] at KL ⊢
          go_wp2_with (fail)
          refine (KL.out _ HS5.out.at_).mono ?_
          rintro e w6 ⟨rfl, hb6⟩
          have HS6 := Lib.hid (HS5.out.grew hb6)
          have s1 : ((bs ([] : Bys)).toList == (bs ([] : Bys)).toList) = true := beq_self_eq_true _
          clear hb6 HS5 KL
          generalize hq : bs ([] : Bys) = q at *
          go_wp2
          go_roundw
          case rel => exact ⟨i + 1, d6, none, by go_num, by omega, by rw [← hq]; rfl, K6.out, hok6.out, ha6.out, HS6.out⟩
          case measure => simp [intOf]; omega
        | some q =>
          simp only [Option.getD_some, Option.isSome_some, if_true] at KL ⊢
          go_wp2_with (fail)
          refine (KL.out _ HS5.out.at_).mono ?_
          rintro e w6 ⟨rfl, hb6⟩
          have HS6 := Lib.hid (HS5.out.grew hb6)
          have s1 : ((bs q).toList == (bs q).toList) = true := beq_self_eq_true _
          clear hb6 HS5 KL
          go_wp2
          go_roundw
          case rel => exact ⟨i + 1, d6, some q, by go_num, by omega, rfl, K6.out, hok6.out, ha6.out, HS6.out⟩
          case measure => simp [intOf]; omega
    case pos =>
      as_aux_lemma =>
      have q7 : decide (0 < n) = true := decide_eq_true hn0
      obtain ⟨r1, K1⟩ := HKd.out.arm (n := n) (by omega) hn
      have KA := Lib.hid (fun (W : World) (hW : DkAt (w.heap.size + 1) w.heap.size d W) => arm_any hW n)
      rw [r1] at KA
      have K1 := Lib.hid K1
      unfold ptrV at KA
      generalize (armD d n).1 = d1 at *
      clear hn hn0 r1
      go_wp2_with (fail)
      refine (KA.out _ HS.out.at_).mono ?_
      rintro e w3 ⟨rfl, hd, hg⟩
      have HS := Lib.hid (HS.out.own hd hg)
      have c0 := HCx.out w3 HS.out.bel
      clear hd hg KA a0
      have HRd := Lib.hid (K1.out.round (ko_nil xN) xN_right Hok.out Hx1.out Hx2.out ks)
      have KS := Lib.hid (fun (W : World) (hW : DkAt (w.heap.size + 1) w.heap.size d1 W) => save_any hW K1.out.fit (by have := (K1.out.sizes (ko_nil xN) xN_right Hok.out).2; omega) xN x (by decide) (by have := Hx2.out; unfold maxLen; omega))
      have KC := Lib.hid (fun (W : World) (hW : DkAt (w.heap.size + 1) w.heap.size (saveD d1 xN x).1 W) (hB : Below w.heap.size w W) => crash_any hW (save_fit K1.out.fit xN x) (by have := save_length d1 xN x; have := (K1.out.sizes (ko_nil xN) xN_right Hok.out).2; omega) ks ka kc (HkK.out W hB) Hkc.out Hkm.out)
      have KL := Lib.hid (fun (W : World) (d6 : Dk) (hf6 : d6.fit) (hW : DkAt (w.heap.size + 1) w.heap.size d6 W) => load_any hW hf6 xN (by decide))
      unfold strV ptrV at KS
      unfold ptrV at KC
      unfold LoadSaid strV ptrV at KL
      have exN : bs xN = ⟨#[120]⟩ := rfl
      rw [exN] at KS
      simp only [exN] at KL
      clear exN
      generalize saveD d1 xN x = r at *
      obtain ⟨d5, z5⟩ := r
      simp only at KS KC HRd
      go_wp2_with (fail)
      refine (KS.out _ HS.out.at_).mono ?_
      rintro e w4 hk
      obtain ⟨rfl, hS⟩ := HS.out.done hk
      have HS4 := Lib.hid hS
      clear hk hS HS KS c0
      rcases HRd.out with ⟨z0, K6⟩ | ⟨z0, K6⟩
      · subst z0
        have K6 := Lib.hid K6
        have hok6 : okK (some x) := fun b hb => by rw [← Option.some.inj hb]; exact ⟨Hx1.out, Hx2.out⟩
        have hload := K6.out.load xN_right hok6
        have hok6 := Lib.hid hok6
        have ha6 := Lib.hid (crash_armed d5 ks)
        have KL := Lib.hid (fun W => KL.out W _ K6.out.fit)
        rw [hload] at KL
        generalize crashD d5 ks = d6 at *
        clear HRd hload
        go_wp2_with (fail)
        refine (KC.out _ HS4.out.at_ HS4.out.bel).mono ?_
        rintro e w5 hk
        obtain ⟨rfl, hS⟩ := HS4.out.done hk
        have HS5 := Lib.hid hS
        clear hk hS HS4 KC
        simp only [Option.getD_some, Option.isSome_some, if_true] at KL
        go_wp2_with (fail)
        refine (KL.out _ HS5.out.at_).mono ?_
        rintro e w6 ⟨rfl, hb6⟩
        have HS6 := Lib.hid (HS5.out.grew hb6)
        have c0 := HCx.out w6 HS6.out.bel
        have s1 : ((bs x).toList == (bs x).toList) = true := beq_self_eq_true _
        have s2 : ((bs x).toList != (bs x).toList) = false := by rw [bne, s1]; rfl
        obtain ⟨q, hq⟩ : ∃ q : Bys, q = kept.getD [] := ⟨_, rfl⟩
        rw [← hq]
        clear hb6 HS5 KL hq
        cases s3 : ((bs x).toList == (bs q).toList) with
        | true =>
          have s4 : ((bs x).toList != (bs q).toList) = false := by rw [bne, s3]; rfl
          go_wp2
          go_roundw
          case rel => exact ⟨i + 1, d6, some x, by go_num, by omega, rfl, K6.out, hok6.out, ha6.out, HS6.out⟩
          case measure => simp [intOf]; omega
        | false =>
          have s4 : ((bs x).toList != (bs q).toList) = true := by rw [bne, s3]; rfl
          go_wp2
          go_roundw
          case rel => exact ⟨i + 1, d6, some x, by go_num, by omega, rfl, K6.out, hok6.out, ha6.out, HS6.out⟩
          case measure => simp [intOf]; omega
      · subst z0
        have K6 := Lib.hid K6
        have hok6 : okK kept := Hok.out
        have hload := K6.out.load xN_right hok6
        have hok6 := Lib.hid hok6
        have ha6 := Lib.hid (crash_armed d5 ks)
        have KL := Lib.hid (fun W => KL.out W _ K6.out.fit)
        rw [hload] at KL
        generalize crashD d5 ks = d6 at *
        clear HRd hload
        go_wp2_with (fail)
        refine (KC.out _ HS4.out.at_ HS4.out.bel).mono ?_
        rintro e w5 hk
        obtain ⟨rfl, hS⟩ := HS4.out.done hk
        have HS5 := Lib.hid hS
        clear hk hS HS4 KC
        have s0 : (bs ([] : Bys)).toList.isEmpty = true := by rw [bs_toList]; rfl
        cases kept with
        | none =>
          simp only [Option.getD_none, Option.isSome_none, Bool.false_eq_true, if_false] at KL ⊢
          go_wp2_with (fail)
          refine (KL.out _ HS5.out.at_).mono ?_
          rintro e w6 ⟨rfl, hb6⟩
          have HS6 := Lib.hid (HS5.out.grew hb6)
          have s1 : ((bs ([] : Bys)).toList == (bs ([] : Bys)).toList) = true := beq_self_eq_true _
          clear hb6 HS5 KL
          generalize hq : bs ([] : Bys) = q at *
          go_wp2
          go_roundw
          case rel => exact ⟨i + 1, d6, none, by go_num, by omega, by rw [← hq]; rfl, K6.out, hok6.out, ha6.out, HS6.out⟩
          case measure => simp [intOf]; omega
        | some q =>
          simp only [Option.getD_some, Option.isSome_some, if_true] at KL ⊢
          go_wp2_with (fail)
          refine (KL.out _ HS5.out.at_).mono ?_
          rintro e w6 ⟨rfl, hb6⟩
          have HS6 := Lib.hid (HS5.out.grew hb6)
          have s1 : ((bs q).toList == (bs q).toList) = true := beq_self_eq_true _
          clear hb6 HS5 KL
          go_wp2
          go_roundw
          case rel => exact ⟨i + 1, d6, some q, by go_num, by omega, rfl, K6.out, hok6.out, ha6.out, HS6.out⟩
          case measure => simp [intOf]; omega
end Go.Proofs.YtbaffabemomgjaaDoor
