/- The walk of the program's reader: List. Conditions: as each theorem says. -/
import Derived.Test.YtlbacddgjagcbaaPackT
namespace Go.Proofs.Ytlbacddgjagcbaa
open Go.RowKit

theorem listR_w (r : Rd) (h : (numR r).2.e ≠ 0) : listR r = ([], (numR r).2) := by unfold listR; rw [if_pos h]
theorem listR_n (r : Rd) (h : (numR r).2.e = 0) (hn : (numR r).1 < 0 ∨ 10000 < (numR r).1) : listR r = ([], ⟨(numR r).2.l, 11⟩) := by unfold listR; rw [if_neg (by omega), if_pos hn]
theorem listR_o (r : Rd) (h : (numR r).2.e = 0) (h1 : 0 ≤ (numR r).1) (h2 : (numR r).1 ≤ 10000) : listR r = textsR (numR r).1.toNat [] (numR r).2 := by unfold listR; rw [if_neg (by omega), if_neg (by omega)]
theorem textsR_stop (k : Nat) (D : List (List UInt8)) (r : Rd) (h : (textR r).2.e ≠ 0) : textsR (k + 1) D r = ([], (textR r).2) := by unfold textsR; rw [if_pos h]
theorem textsR_go (k : Nat) (D : List (List UInt8)) (r : Rd) (h : (textR r).2.e = 0) : textsR (k + 1) D r = textsR k (D ++ [(textR r).1]) (textR r).2 := by rw [textsR, if_neg (by omega)]
theorem grown_own {a w w' : World} {row row' : Option Nat} (h : a.grownBy w row) (k : w.grownBy w' row') (hr : ∀ k, row' = some k → a.heap.size ≤ k) : a.grownBy w' row :=
  ⟨k.os.trans h.os, k.tape.trans h.tape, k.output.trans h.output, Nat.le_trans h.size k.size, fun i hi hne => (k.block i (Nat.lt_of_lt_of_le hi h.size) (fun e => by have := hr i e.symm; omega)).trans (h.block i hi hne)⟩
theorem grown_alloc (w : World) (o : Obj) (row : Option Nat) : w.grownBy (w.alloc o) row := ⟨rfl, rfl, rfl, by simp, fun k hk _ => Below.heap_alloc _ _ _ hk⟩
theorem own_grown {w w' : World} {base e size n b : Nat} {v : Value} {xs : List Value} (h : w.ownsRow base e size v n xs) (hg : w.grownBy w' (some b)) (hb : v.ownBlock ≠ some b) : w'.ownsRow base e size v n xs := h.kept hg (Or.inr (fun e => hb (by rw [e])))
theorem strs_size {L : List (List UInt8)} : (L.map str).length = L.length := by simp
/-- What the list's reader hands back: a slice that reads as the texts. -/
def ListSaid (T b : Nat) (r : Rd) (w : World) (e : Ending) (w' : World) : Prop :=
  ∃ a cap, e = .returned (.slice a (listR r).1.length cap) ∧ StrsAt w' (.slice a (listR r).1.length cap) (listR r).1 ∧ (listR r).1.length ≤ 10000 ∧ RdAt T b (listR r).2 w' ∧ w.grownBy w' (some b) ∧ ∀ p, a = some p → w.heap.size ≤ p.block

set_option maxRecDepth 100000 in
set_option maxHeartbeats 400000 in
theorem listRead_any (b : Nat) (r : Rd) (w : World) (h : RdAt 91 b r w) (hl : r.l.length ≤ 9223372036854775807) :
    Calls Try.prog 29 #[.pointer (some ⟨b, 0, none⟩)] w fun e w' => ListSaid 91 b r w e w' := by
  obtain ⟨i5, hi, hz0, hz1, hz2⟩ := info_parts infoStr
  have Hw := Lib.hid (listR_w r)
  have Hn := Lib.hid (listR_n r)
  have Ho := Lib.hid (listR_o r)
  have hlen := numR_len r
  have hN := Lib.hid (numRead_any b r w h hl)
  have hblt := h.lt
  unfold ListSaid
  generalize listR r = lr at *
  generalize numR r = nr at *
  obtain ⟨n, r1⟩ := nr
  simp only at Hw Hn Ho hlen hN
  go_enter Try.func29, Try.ntmps29
  go_wp2_with (fail)
  refine hN.out.mono ?_
  rintro e w1 ⟨rfl, hR1, hg1⟩
  go_wp2_with (fail)
  have hwe := well_any 91 b r1 w1 hR1
  by_cases he : r1.e = 0
  · rw [decide_eq_true he] at hwe
    refine hwe.mono ?_
    rintro e w2 ⟨rfl, rfl⟩
    clear hwe
    by_cases hn : n < 0 ∨ 10000 < n
    · have HT := Lib.hid (Hn.out he hn)
      have HF := Lib.hid (fails_any b r1 11 w2 hR1)
      have HN := Lib.hid hn
      clear hn
      by_cases hn0 : n < 0
      · as_aux_lemma =>
        go_wp2_with (fail)
        refine HF.out.mono ?_
        rintro e w3 ⟨rfl, hR3, hg3⟩
        go_wp2
        go_ret
        rw [HT.out]
        exact ⟨none, 0, rfl, strs_none _, by simp, hR3, grown_trans hg1 hg3, by simp⟩
      · as_aux_lemma =>
        have hn1 : 10000 < n := by have := HN.out; omega
        go_wp2_with (fail)
        refine HF.out.mono ?_
        rintro e w3 ⟨rfl, hR3, hg3⟩
        go_wp2
        go_ret
        rw [HT.out]
        exact ⟨none, 0, rfl, strs_none _, by simp, hR3, grown_trans hg1 hg3, by simp⟩
    · have hn0 : 0 ≤ n := by omega
      have hn1 : n ≤ 10000 := by omega
      clear hn
      have HT := Lib.hid (Ho.out he hn0 hn1)
      obtain ⟨m, rfl⟩ : ∃ m : Nat, n = (m : Int) := ⟨n.toNat, by omega⟩
      simp only [Int.toNat_natCast] at HT
      clear Ho Hw Hn
      go_wp2
      go_loopw [4, 19] (fun v vi wr => ∃ (i : Nat) (D : List (List UInt8)) (rr : Rd), vi = .int .i64 i ∧ i ≤ m ∧ D.length = i ∧ rr.e = 0 ∧ rr.l.length ≤ 9223372036854775807 ∧ RdAt 91 b rr wr ∧ w.grownBy wr (some b) ∧ wr.ownsRow w.heap.size 9 1 v D.length (D.map str) ∧ textsR m [] r1 = textsR (m - i) D rr) (fun _ vi _ => m - (intOf vi).toNat)
      case atStart => exact ⟨0, [], r1, rfl, by omega, rfl, he, by omega, hR1, hg1, World.ownsRow_nil _ _ _ _, rfl⟩
      case round =>
        obtain ⟨i, D, rr, rfl, him, hDi, hre, hrl, hRr, hgr, hown, hts⟩ := hrel
        have HTS := Lib.hid hts
        have HRE := Lib.hid hre
        have HD := Lib.hid hDi
        have hDm : D.length ≤ m := by omega
        clear hts hre hDi
        by_cases hlt : i < m
        · obtain ⟨k, hk⟩ : ∃ k, m - i = k + 1 := ⟨m - i - 1, by omega⟩
          have HK := Lib.hid hk
          clear hk
          have HX := Lib.hid (textRead_any b rr wr hRr hrl)
          have hS := Lib.hid (textsR_stop k D rr)
          have hG := Lib.hid (textsR_go k D rr)
          have htl := textR_len rr
          generalize htr : textR rr = tr at *
          obtain ⟨s, r2⟩ := tr
          simp only at HX hS hG htl
          go_wp2_with (fail)
          refine HX.out.mono ?_
          rintro e w3 ⟨rfl, hR3, hg3⟩
          have hown3 : w3.ownsRow w.heap.size 9 1 _ D.length (D.map str) := own_grown hown hg3 (fun e => by have := own_base hown b e; omega)
          have hgw3 := grown_trans hgr hg3
          have hobs := own_base hown
          clear hown hg3 hRr htr
          go_wp2_with (at_builtin; refine wpList_append_own _ rfl _ _ 22 rfl w.heap.size 9 i5 (.string ⟨#[]⟩) 1 16 Try.underlying22 hi hz0 hz1 hz2 rfl (by decide) _ _ _ rfl (hown3.alloc _) ⟨w3.heap.size, 0, none⟩ 1 1 [str s] rfl rfl (new_cells w3 _ 9) (by intro x hx; simp at hx; subst hx; rfl) (by unfold maxLen; omega) (by omega) (by have := hgw3.size; simp; omega) ?_)
          intro v' w4 hown4 hgr4 _
          have hown5 : w4.ownsRow w.heap.size 9 1 v' (D ++ [s]).length ((D ++ [s]).map str) := by
            simpa using hown4
          have hR4 : RdAt 91 b r2 w4 := RdAt.grown (RdAt.grown hR3 (grown_alloc _ _ none) (by simp)) hgr4 (fun e => by have := hobs b e.symm; omega)
          have hgw4 : w.grownBy w4 (some b) := grown_own (grown_trans hgw3 (grown_alloc _ _ _)) hgr4 hobs
          clear hown4 hgr4 hR3 hgw3 hobs
          have hwe := well_any 91 b r2 w4 hR4
          by_cases he2 : r2.e = 0
          · as_aux_lemma =>
            rw [decide_eq_true he2] at hwe
            have HE2 := Lib.hid he2
            have HW := Lib.hid hwe
            clear he2 hwe
            go_wp2_with (fail)
            refine HW.out.mono ?_
            rintro e w5 ⟨rfl, rfl⟩
            go_wp2
            go_roundw
            case rel =>
              refine ⟨i + 1, D ++ [s], r2, by go_num, by omega, by simp [HD.out], HE2.out, by omega, hR4, hgw4, hown5, ?_⟩
              rw [HTS.out, HK.out, hG.out HE2.out]
              congr 1
              have := HK.out
              omega
            case measure => simp [intOf]; omega
          · as_aux_lemma =>
            rw [decide_eq_false he2] at hwe
            have HE2 := Lib.hid he2
            have HW := Lib.hid hwe
            clear he2 hwe
            go_wp2_with (fail)
            refine HW.out.mono ?_
            rintro e w5 ⟨rfl, rfl⟩
            go_wp2
            go_ret
            rw [HT.out, HTS.out, HK.out, hS.out HE2.out]
            exact ⟨none, 0, rfl, strs_none _, by simp, hR4, hgw4, by simp⟩
        · as_aux_lemma =>
          obtain rfl : i = m := by omega
          have hfin : textsR i [] r1 = (D, rr) := by rw [HTS.out, Nat.sub_self]; rfl
          have HFIN := Lib.hid hfin
          clear hfin
          have hst := strs_own hown
          have hob := own_base hown
          obtain ⟨a, cap, rfl⟩ : ∃ a cap, u4 = .slice a D.length cap := by
            rcases hown.2 with ⟨hv, h0⟩ | ⟨g, cap, cur, hv, _⟩
            · exact ⟨none, 0, by rw [hv, h0]⟩
            · exact ⟨_, _, hv⟩
          have hD2 : D.length ≤ 10000 := by omega
          go_wp2
          go_ret
          rw [HT.out, HFIN.out]
          exact ⟨a, cap, rfl, hst, hD2, hRr, hgr, fun p hp => hob p.block (by rw [hp]; rfl)⟩
  · as_aux_lemma =>
    rw [decide_eq_false he] at hwe
    have HT := Lib.hid (Hw.out he)
    refine hwe.mono ?_
    rintro e w2 ⟨rfl, rfl⟩
    clear hwe
    go_wp2
    go_ret
    rw [HT.out]
    exact ⟨none, 0, rfl, strs_none _, by simp, hR1, hg1, by simp⟩
end Go.Proofs.Ytlbacddgjagcbaa
