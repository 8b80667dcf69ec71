/- The walks of the reference's Next and Range. Conditions: as each theorem says. -/
import Derived.Test.YteoibolompiohaaIdxSb
namespace Go.Proofs.Yteoibolompiohaa
open Go.RowKit

theorem nextP_drop (L : List Pr) (i : Nat) (hi : i < L.length) : nextP (L.drop i) = (L[i], true) := by rw [List.drop_eq_getElem_cons hi]; rfl
theorem nextP_end (L : List Pr) (i : Nat) (hi : ¬ i < L.length) : nextP (L.drop i) = (([], 0), false) := by rw [List.drop_eq_nil_of_le (by omega)]; rfl
theorem rnext_results (x : Pr) (t : Bool) (tmps : Array Value) (w : World) (g1 : Nat) (h4 : tmps.getD 4 undef = .pointer (some ⟨g1, 0, none⟩)) (h5 : tmps.getD 5 undef = .bool t) (b1 : BlkAt g1 RfT (prCells x) w) :
    (results Try.f17 tmps).run Try.prog w = .ok (.tuple #[prV x, .bool t]) w := by
  have k0 := b1.cell (i := 0) rfl
  have k1 := b1.cell (i := 1) rfl
  have h4' : tmps[4]?.getD undef = .pointer (some ⟨g1, 0, none⟩) := by simpa using h4
  have h5' : tmps[5]?.getD undef = .bool t := by simpa using h5
  unfold results prV
  simp [Try.f17, h4', h5', asAddr, go_sem, k0, k1, Result.andThen]
set_option maxRecDepth 100000 in
set_option maxHeartbeats 1000000 in
theorem refNext_any (L : List Pr) (v : Value) (hL : L.length ≤ 1000000) (k : Key) (w : World) (h : RefAt L v w) :
    Calls Try.prog 17 #[v, .string (bs k)] w (NextSaid w (L.drop (spotF L k))) := by
  have hB0 := alloc_below w (.cells #[.string ⟨#[]⟩, .int .i64 0] RfT)
  have HA := Lib.hid (refAt_any L v hL k _ (show RefAt L v _ from Grow.below h hB0))
  obtain ⟨a, c, rfl⟩ := h.slice
  have HG := Lib.hid (RefAt.get h).2
  have hZ := BlkAt.alloc_new w [.string ⟨#[]⟩, .int .i64 0] RfT
  have HB0 := Lib.hid hB0
  have hsp := spotF_le L k
  clear h hB0
  unfold NextSaid
  by_cases hlt : spotF L k < L.length
  · rw [nextP_drop L _ hlt]
    obtain ⟨b, rfl, k0, k1⟩ := HG.out _ hlt
    have k0 := Grew.cell HB0.out k0
    have k1 := Grew.cell HB0.out k1
    have hil : (spotF L k : Int) < (L.length : Int) := by omega
    have hne : ((spotF L k : Int) == (L.length : Int)) = false := beq_eq_false_iff_ne.2 (by omega)
    have HZ := Lib.hid hZ
    clear hZ
    generalize L[spotF L k] = x at *
    go_enter Try.func17, Try.ntmps17
    go_upto_region 2 with (go_at_call 31; (with_reducible refine HA.out.mono ?_); rintro e w1 ⟨rfl, hb1⟩)
    have k0 := Grew.cell hb1 k0
    have k1 := Grew.cell hb1 k1
    have z := HZ.out.grew hb1
    have z0 := z.cell (i := 0) rfl
    have z1 := z.cell (i := 1) rfl
    have f0 := z.frozen 0
    have f1 := z.frozen 1
    have hl := z.lt
    have HZ1 := Lib.hid z
    have HB1 := Lib.hid (Below.trans HB0.out (hb1.mono (by simp)))
    clear z hb1
    go_wp2
    refine bodyPost_ret (rnext_results x true _ _ w.heap.size rfl rfl ((HZ1.out.set 0 _).set 1 _)) rfl ?_
    exact ⟨rfl, (HB1.out.setCell (p := ⟨w.heap.size, 0, none⟩) (Nat.le_refl _) _).setCell (p := ⟨w.heap.size, 1, none⟩) (Nat.le_refl _) _⟩
  · rw [nextP_end L _ hlt]
    have hne : ((spotF L k : Int) == (L.length : Int)) = true := by rw [show spotF L k = L.length by omega]; exact beq_self_eq_true _
    have HZ := Lib.hid hZ
    clear hZ hlt
    go_enter Try.func17, Try.ntmps17
    go_upto_region 2 with (go_at_call 31; (with_reducible refine HA.out.mono ?_); rintro e w1 ⟨rfl, hb1⟩)
    have z := HZ.out.grew hb1
    have z0 := z.cell (i := 0) rfl
    have z1 := z.cell (i := 1) rfl
    have f0 := z.frozen 0
    have f1 := z.frozen 1
    have hl := z.lt
    have HZ1 := Lib.hid z
    have HB1 := Lib.hid (Below.trans HB0.out (hb1.mono (by simp)))
    clear z hb1
    go_wp2
    refine bodyPost_ret (rnext_results ([], 0) false _ _ w.heap.size rfl rfl ((HZ1.out.set 0 _).set 1 _)) rfl ?_
    exact ⟨rfl, (HB1.out.setCell (p := ⟨w.heap.size, 0, none⟩) (Nat.le_refl _) _).setCell (p := ⟨w.heap.size, 1, none⟩) (Nat.le_refl _) _⟩
def inR (fr tk : Key) (p : Pr) : Bool := !kLt p.1 fr && okTo tk p
def rngRef (L : List Pr) (fr tk : Key) (most : Int) : List Pr := (L.filter (inR fr tk)).take most.toNat
def RRangeSaid (w : World) (R : List Pr) (e : Ending) (w' : World) : Prop := ∃ v, e = .returned v ∧ RefAt R v w' ∧ Below w.heap.size w w'
theorem filter_step (f : Pr → Bool) (L : List Pr) (i : Nat) (hi : i < L.length) : (L.take (i + 1)).filter f = (L.take i).filter f ++ (if f L[i] = true then [L[i]] else []) := by
  rw [List.take_succ_eq_append_getElem hi, List.filter_append]
  congr 1
  cases h : f L[i] <;> simp [h]
theorem rngRef_end (L : List Pr) (fr tk : Key) (most : Int) (i : Nat) (out : List Pr) (ho : out = (L.take i).filter (inR fr tk)) (hle : (out.length : Int) ≤ max most 0) (h : L.length ≤ i ∨ most ≤ (out.length : Int)) : rngRef L fr tk most = out := by
  unfold rngRef
  have e : L.filter (inR fr tk) = out ++ (L.drop i).filter (inR fr tk) := by rw [ho, ← List.filter_append, List.take_append_drop]
  rw [e]
  rcases h with h | h
  · rw [List.drop_eq_nil_of_le h, List.filter_nil, List.append_nil, List.take_of_length_le (by omega)]
  · have : most.toNat = out.length := by omega
    rw [this, List.take_left' rfl]
set_option maxRecDepth 100000 in
set_option maxHeartbeats 2000000 in
theorem refRange_any (L : List Pr) (v : Value) (hL : L.length ≤ 1000000) (fr tk : Key) (most : Int) (w : World) (h : RefAt L v w) :
    Calls Try.prog 15 #[v, .string (bs fr), .string (bs tk), .int .i64 most] w (RRangeSaid w (rngRef L fr tk most)) := by
  obtain ⟨a, c, rfl⟩ := h.slice
  have HG := Lib.hid (RefAt.get h).2
  clear h
  go_enter Try.func15, Try.ntmps15
  go_wp2
  go_loopg [9, 10] L.length (fun gk v9 v10 wr => ∃ (i : Nat) (out : List Pr) (va : Option Addr) (vc : Nat), v10 = .int .i64 (i : Int) ∧ v9 = .slice va out.length vc ∧ i + gk = L.length ∧ Hid (out = (L.take i).filter (inR fr tk) ∧ (out.length : Int) ≤ max most 0) ∧ Hid (Grow RfT 2 prCells w.heap.size (.slice va out.length vc) out wr) ∧ Below w.heap.size w wr)
  case atStart => exact ⟨0, [], none, 0, rfl, rfl, by omega, Lib.hid ⟨rfl, by simp; omega⟩, Lib.hid (Grow.nil _), Below.refl _ _⟩
  case round =>
    obtain ⟨i, out, va, vc, rfl, rfl, hi, HO, HW, hB⟩ := hrel
    by_cases hlt : i < L.length
    · have hil : (i : Int) < (L.length : Int) := by omega
      have hi6 : (i : Int) ≤ 1000000 := by omega
      by_cases hm : (out.length : Int) < most
      · obtain ⟨b, rfl, k0, k1⟩ := HG.out i hlt
        have hbl : b < w.heap.size := block_lt_of_cell k1
        have k0 := Grew.cell hB k0
        have k1 := Grew.cell hB k1
        have hst := filter_step (inR fr tk) L i hlt
        rw [← HO.out.1] at hst
        have hol : out.length ≤ i := by
          rw [HO.out.1]
          exact Nat.le_trans (List.length_filter_le _ _) (by simp; omega)
        generalize L[i] = x at *
        have HST := Lib.hid hst
        have hsz := hB.size
        clear hst
        have hGo : ∀ b, inR fr tk x = b → Hid (inR fr tk x = b) := fun b h => Lib.hid h
        by_cases h1 : kLt x.1 fr = true
        · have HI := hGo false (by unfold inR; rw [h1]; rfl)
          have e2 : Op.bytesLess (bs x.1).toList (bs fr).toList = true := by rw [bs_toList, bs_toList]; exact h1
          have HB := Lib.hid hB
          clear hGo h1 hB
          go_wp2
          go_roundg (gk - 1)
          case rel => exact ⟨i + 1, out, va, vc, by go_num, rfl, by omega, Lib.hid ⟨by rw [HST.out, HI.out]; simp, HO.out.2⟩, HW, HB.out⟩
          case measure => omega
        · rw [Bool.not_eq_true] at h1
          have e2 : Op.bytesLess (bs x.1).toList (bs fr).toList = false := by rw [bs_toList, bs_toList]; exact h1
          obtain ⟨g1, cap1, w9, hrun1, hG1, hgr1, hat1, hlt1, hsz1⟩ := append_run (P := Try.prog) (w := wr) 25 Try.underlying25 (.agg #[.string ⟨#[]⟩, .int .i64 0]) 24 infoRf rfl (by omega) HW.out hsz x rfl (prCells_one x) (by unfold maxLen; omega) (by omega)
          have HR1 : Hid ((Builtin.append_ #[25, 25] 25 #[.slice va out.length vc, .slice (some ⟨wr.heap.size, 0, none⟩) 1 1]).run Try.prog (wr.alloc (.cells #[.string (bs x.1), .int .i64 x.2] RfT)) = .ok (.slice (some ⟨g1, 0, none⟩) (out.length + 1) cap1) w9) := Lib.hid hrun1
          have HG1 := Lib.hid (show Grow RfT 2 prCells w.heap.size (.slice (some ⟨g1, 0, none⟩) (out ++ [x]).length cap1) (out ++ [x]) w9 from by rw [List.length_append]; exact hG1)
          have HB9 := Lib.hid (hB.grown hgr1 hsz (fun j e => own_base HW.out j e))
          have HB := Lib.hid hB
          clear hrun1 hG1 hgr1 hat1 hsz1 hB
          cases tk with
          | nil =>
            have e0 : (bs []).toList = [] := bs_toList []
            have e1 : (bs []).toList.isEmpty = true := by rw [e0]; rfl
            have HI := hGo true (by unfold inR; rw [h1]; rfl)
            clear hGo h1
            go_wp2_with (at_builtin; refine wpList_append_eq (by rfl) _ _ 25 (by rfl) _ _ _ _ (by rfl) (by rfl) HR1.out ?_)
            go_roundg (gk - 1)
            case rel => exact ⟨i + 1, out ++ [x], _, _, by go_num, by rw [List.length_append]; rfl, by omega, Lib.hid ⟨by rw [HST.out, HI.out]; simp, by simp; omega⟩, HG1, HB9.out⟩
            case measure => omega
          | cons c0 c1 =>
            have e1 : (bs (c0 :: c1)).toList.isEmpty = false := by rw [bs_toList]; rfl
            have e0 : ¬ (bs (c0 :: c1)).toList = [] := by rw [bs_toList]; simp
            by_cases h2 : kLt x.1 (c0 :: c1) = true
            · have e3 : Op.bytesLess (bs x.1).toList (bs (c0 :: c1)).toList = true := by rw [bs_toList, bs_toList]; exact h2
              have HI := hGo true (by unfold inR okTo; rw [h1, h2]; rfl)
              clear hGo h1 h2
              go_wp2_with (at_builtin; refine wpList_append_eq (by rfl) _ _ 25 (by rfl) _ _ _ _ (by rfl) (by rfl) HR1.out ?_)
              go_roundg (gk - 1)
              case rel => exact ⟨i + 1, out ++ [x], _, _, by go_num, by rw [List.length_append]; rfl, by omega, Lib.hid ⟨by rw [HST.out, HI.out]; simp, by simp; omega⟩, HG1, HB9.out⟩
              case measure => omega
            · rw [Bool.not_eq_true] at h2
              have e3 : Op.bytesLess (bs x.1).toList (bs (c0 :: c1)).toList = false := by rw [bs_toList, bs_toList]; exact h2
              have HI := hGo false (by unfold inR okTo; rw [h1, h2]; rfl)
              clear hGo h1 h2 HR1 HG1 HB9
              go_wp2
              go_roundg (gk - 1)
              case rel => exact ⟨i + 1, out, va, vc, by go_num, rfl, by omega, Lib.hid ⟨by rw [HST.out, HI.out]; simp, HO.out.2⟩, HW, HB.out⟩
              case measure => omega
      · go_wp2
        go_ret
        exact ⟨_, rfl, (by rw [rngRef_end L fr tk most i out HO.out.1 HO.out.2 (.inr (by omega))]; exact HW.out.mono (Nat.zero_le _)), hB⟩
    · obtain rfl : i = L.length := by omega
      go_wp2
      go_ret
      exact ⟨_, rfl, (by rw [rngRef_end L fr tk most _ out HO.out.1 HO.out.2 (.inl (Nat.le_refl _))]; exact HW.out.mono (Nat.zero_le _)), hB⟩
end Go.Proofs.Yteoibolompiohaa
