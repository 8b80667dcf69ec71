/- The walks of the reference. Conditions: as each theorem says. -/
import Derived.Test.YteoibolompiohaaIdxSa
namespace Go.Proofs.Yteoibolompiohaa
open Go.RowKit

abbrev RfT : TypeId := 40
theorem infoRf : (Try.prog.info? RfT).map (fun i => (i.zero, i.size, i.bytes)) = some (some (.agg #[.string ⟨#[]⟩, .int .i64 0]), 2, 24) := by kernel_rfl
theorem dec_beq (a b : Key) : decide (a = b) = (a == b) := by
  by_cases e : a = b
  · subst e; simp
  · rw [decide_eq_false e, (beq_eq_false_iff_ne.2 e)]
/-- The document's pairs in memory. -/
abbrev RefAt (L : List Pr) (v : Value) (w : World) : Prop := Grow RfT 2 prCells 0 v L w
theorem RefAt.get {L : List Pr} {a : Option Addr} {n c : Nat} {w : World} (h : RefAt L (.slice a n c) w) : n = L.length ∧ ∀ i (hi : i < L.length), ∃ b, a = some ⟨b, 0, none⟩ ∧ w.cell? ⟨b, i * 2, none⟩ = some (.string (bs (L[i]).1)) ∧ w.cell? ⟨b, i * 2 + 1, none⟩ = some (.int .i64 (L[i]).2) := by
  obtain ⟨a', c', hv⟩ := h.slice
  simp only [Value.slice.injEq] at hv
  obtain ⟨rfl, rfl, rfl⟩ := hv
  refine ⟨rfl, fun i hi => ?_⟩
  obtain ⟨g, c2, hv, _⟩ := h.form (by omega)
  simp only [Value.slice.injEq] at hv
  have hc := h.cells prCells_len (by rw [hv.1]) i hi
  have h0 := hc 0 _ rfl
  have h1 := hc 1 _ rfl
  rw [Nat.add_zero] at h0
  exact ⟨g, hv.1, h0, h1⟩
set_option maxRecDepth 100000 in
set_option maxHeartbeats 1000000 in
theorem refAt_any (L : List Pr) (v : Value) (hL : L.length ≤ 1000000) (k : Key) (w : World) (h : RefAt L v w) :
    Calls Try.prog 31 #[v, .string (bs k)] w fun e w' => e = .returned (.tuple #[.int .i64 (spotF L k : Int), .bool (hasF L k)]) ∧ Below w.heap.size w w' := by
  obtain ⟨a, c, rfl⟩ := h.slice
  have HG := Lib.hid (RefAt.get h).2
  have HN : Hid (0 ≤ spotF L k) := Lib.hid (Nat.zero_le _)
  clear h
  go_enter Try.func31, Try.ntmps31
  go_wp2
  go_loopg [6] L.length (fun gk v6 wr => ∃ i : Nat, v6 = .int .i64 (i : Int) ∧ i + gk = L.length ∧ i ≤ spotF L k ∧ wr = w)
  case atStart => exact ⟨0, rfl, by omega, HN.out, rfl⟩
  case round =>
    obtain ⟨i, rfl, hi, his, rfl⟩ := hrel
    by_cases hlt : i < L.length
    · obtain ⟨b, rfl, k0, k1⟩ := HG.out i hlt
      have hil : (i : Int) < (L.length : Int) := by omega
      have hi6 : (i : Int) ≤ 1000000 := by omega
      by_cases h1 : kLt (L[i]).1 k = true
      · have HO := Lib.hid (spotF_on hlt his h1)
        have hl1 : Op.bytesLess (bs (L[i]).1).toList (bs k).toList = true := by rw [bs_toList, bs_toList]; exact h1
        clear h1 k1
        generalize (L[i]).1 = q at *
        go_wp2
        go_roundg (gk - 1)
        case rel => exact ⟨i + 1, by go_num, by omega, HO.out, rfl⟩
        case measure => omega
      · rw [Bool.not_eq_true] at h1
        obtain ⟨e1, e2⟩ := spotF_here hlt his h1
        have hl1 : Op.bytesLess (bs (L[i]).1).toList (bs k).toList = false := by rw [bs_toList, bs_toList]; exact h1
        have HE : Hid (spotF L k = i ∧ hasF L k = ((bs (L[i]).1).toList == (bs k).toList)) := Lib.hid ⟨e1, by rw [e2, bs_toList, bs_toList]; exact dec_beq _ _⟩
        clear h1 k1 e1 e2
        generalize (L[i]).1 = q at *
        go_wp2_with (fail)
        go_quiet (fail)
        go_wp2
        go_ret2
        exact ⟨by rw [HE.out.1, HE.out.2]; rfl, drewN_below _ nq (Nat.le_refl _)⟩
    · obtain ⟨e1, e2⟩ := spotF_end (l := L) (k := k) (by omega)
      have HE := Lib.hid (And.intro e1 e2)
      have hi2 : i = L.length := by omega
      subst hi2
      clear e1 e2
      go_wp2
      go_ret2
      exact ⟨by rw [HE.out.1, HE.out.2]; rfl, Below.refl _ _⟩
set_option maxRecDepth 100000 in
set_option maxHeartbeats 1000000 in
theorem refGet_any (L : List Pr) (v : Value) (hL : L.length ≤ 1000000) (k : Key) (w : World) (h : RefAt L v w) :
    Calls Try.prog 28 #[v, .string (bs k)] w fun e w' => e = .returned (.tuple #[.int .i64 (numF L k), .bool (hasF L k)]) ∧ Below w.heap.size w w' := by
  have HA := Lib.hid (refAt_any L v hL k w h)
  obtain ⟨a, c, rfl⟩ := h.slice
  have HG := Lib.hid (RefAt.get h).2
  clear h
  by_cases hi : hasF L k = true
  · obtain ⟨hlt, he⟩ := hasF_lt hi
    obtain ⟨b, rfl, k0, k1⟩ := HG.out _ hlt
    have hbl := block_lt_of_cell k1
    have hn : numF L k = (L[spotF L k]).2 := by unfold numF; rw [List.getElem?_eq_getElem hlt]; simp [he]
    rw [hn, hi]
    rw [hi] at HA
    have hil : (spotF L k : Int) < (L.length : Int) := by omega
    clear hn hi he k0
    generalize spotF L k = i at *
    generalize (L[i]).2 = q at *
    go_enter Try.func28, Try.ntmps28
    go_wp2_with (go_at_call 31; (with_reducible refine HA.out.mono ?_); rintro e w1 ⟨rfl, hb1⟩; have k1 := Grew.cell hb1 k1)
    go_ret2
    exact ⟨rfl, hb1⟩
  · rw [Bool.not_eq_true] at hi
    rw [num_no hi, hi]
    rw [hi] at HA
    clear hi
    go_enter Try.func28, Try.ntmps28
    go_wp2_with (go_at_call 31; (with_reducible refine HA.out.mono ?_); rintro e w1 ⟨rfl, hb1⟩)
    go_ret2
    exact ⟨rfl, hb1⟩
theorem RefAt.upto {L : List Pr} {a : Option Addr} {c : Nat} {w : World} (h : RefAt L (.slice a L.length c) w) (i : Nat) (hi : i ≤ L.length) : RowsAt 2 prCells w (.slice a i c) (L.take i) := by
  cases a with
  | none =>
    rcases h.2 with ⟨h', e⟩ | ⟨g, cap, cur, h', _⟩
    · simp only [Value.slice.injEq, true_and] at h'
      have hi0 : i = 0 := by omega
      subst hi0
      rw [List.take_zero]
      exact rows_none _ _
    · simp at h'
  | some ad =>
    rcases h.2 with ⟨h', _⟩ | ⟨g, cap, cur, h', _⟩
    · simp at h'
    · simp only [Value.slice.injEq, Option.some.injEq] at h'
      obtain ⟨rfl, _, rfl⟩ := h'
      have := (h.short prCells_len i hi).rows prCells_len
      exact this
theorem RefAt.cap {L : List Pr} {a : Option Addr} {c : Nat} {w : World} (h : RefAt L (.slice a L.length c) w) : L.length ≤ c ∧ (a = none → c = 0) ∧ (a = none → L = []) := by
  cases a with
  | none =>
    rcases h.2 with ⟨h', _⟩ | ⟨g, cap, cur, h', _⟩
    · simp only [Value.slice.injEq, true_and] at h'
      exact ⟨by omega, fun _ => h'.2, fun _ => List.eq_nil_of_length_eq_zero h'.1⟩
    · simp at h'
  | some ad =>
    rcases h.2 with ⟨h', _⟩ | ⟨g, cap, cur, h', _⟩
    · simp at h'
    · simp only [Value.slice.injEq, Option.some.injEq] at h'
      obtain ⟨rfl, _, rfl⟩ := h'
      exact ⟨(grow_cap h).2.1, (fun e => nomatch e), (fun e => nomatch e)⟩
def RSetGot (R L : List Pr) (k : Key) (w : World) (e : Ending) (w' : World) : Prop := ∃ v', e = .returned (.tuple #[v', .int .i64 (numF L k), .bool (hasF L k)]) ∧ RefAt R v' w' ∧ Below w.heap.size w w'
set_option maxRecDepth 100000 in
set_option maxHeartbeats 1000000 in
theorem refSet_any (L : List Pr) (v : Value) (hL : L.length ≤ 1000000) (k : Key) (n : Int) (w : World) (h : RefAt L v w) :
    Calls Try.prog 29 #[v, .string (bs k), .int .i64 n] w (RSetGot (insF L k n) L k w) := by
  have HA := Lib.hid (refAt_any L v hL k w h)
  obtain ⟨a, c, rfl⟩ := h.slice
  have HG := Lib.hid (RefAt.get h).2
  have H := Lib.hid h
  have hsp := spotF_le L k
  obtain ⟨hc1, hc2, hc3⟩ := RefAt.cap h
  have HC := Lib.hid (And.intro hc2 hc3)
  have hil : (spotF L k : Int) ≤ (c : Int) := by omega
  clear h hc2 hc3
  go_enter Try.func29, Try.ntmps29
  go_upto_region 4 with (go_at_call 31; (with_reducible refine HA.out.mono ?_); rintro e w1 ⟨rfl, hb1⟩)
  have hr1 := RefAt.upto (show RefAt L (.slice a L.length c) w1 from Grow.below H.out hb1) (spotF L k) hsp
  obtain ⟨v1, w2, hrun1, hG1, hgr1, hat1⟩ := append_all_run (P := Try.prog) (w := w1) (k := 2) (enc := prCells) (T := RfT) (L := []) (base := w1.heap.size) 25 Try.underlying25 (.agg #[.string ⟨#[]⟩, .int .i64 0]) 24 infoRf rfl (by omega) (Grow.nil w1) (Nat.le_refl _) prCells_len prCells_one a (spotF L k) c hr1 HC.out.1 (by simp; unfold maxLen; omega) (by simp; omega)
  rw [List.nil_append] at hG1
  have hb2 : Below w1.heap.size w1 w2 := (Below.refl _ w1).grown hgr1 (Nat.le_refl _) (by intro j e; cases e)
  obtain ⟨g2, cap2, w3, hrun2, hG2, hgr2, hat2, hlt2, hsz2⟩ := append_run (P := Try.prog) (w := w2) 25 Try.underlying25 (.agg #[.string ⟨#[]⟩, .int .i64 0]) 24 infoRf rfl (by omega) hG1 hb2.size (k, n) rfl (prCells_one (k, n)) (by simp; unfold maxLen; omega) (by simp; omega)
  have hlt1 : (L.take (spotF L k)).length = spotF L k := by simp; omega
  rw [hlt1] at hrun2 hG2
  obtain ⟨va, vc, hv1⟩ := hG1.slice
  rw [hlt1] at hv1
  subst hv1
  have HR2 : Hid ((Builtin.append_ #[25, 25] 25 #[.slice va (spotF L k) vc, .slice (some ⟨w2.heap.size, 0, none⟩) 1 1]).run Try.prog (w2.alloc (.cells #[.string (bs k), .int .i64 n] RfT)) = .ok (.slice (some ⟨g2, 0, none⟩) (spotF L k + 1) cap2) w3) := Lib.hid hrun2
  have HR1 := Lib.hid hrun1
  clear hrun2 hrun1 hr1
  go_upto_region 6 with (first | (at_builtin; refine wpList_append_eq (by rfl) _ _ 25 (by rfl) _ _ _ _ (by rfl) (by rfl) HR1.out ?_; clear HR1) | (at_builtin; refine wpList_append_eq (by rfl) _ _ 25 (by rfl) _ _ _ _ (by rfl) (by rfl) HR2.out ?_))
  have hb3 : Below w.heap.size w w3 := (hb1.trans (hb2.mono hb1.size)).grown hgr2 (by have := hb1.size; have := hb2.size; omega) (fun j e => by have := own_base hG1 j e; have := hb1.size; omega)
  have hcap2 : spotF L k + 1 ≤ cap2 := (grow_cap hG2).2.1
  by_cases hi : hasF L k = true
  · have HI := Lib.hid hi
    rw [hi]
    obtain ⟨hlt, he⟩ := hasF_lt hi
    obtain ⟨b, rfl, k0, k1⟩ := HG.out _ hlt
    have k1 := Grew.cell hb3 k1
    have hil2 : (spotF L k : Int) < (L.length : Int) := by omega
    have hL6 : (L.length : Int) ≤ 1000000 := by omega
    have hwi : IntKind.i64.wrap ((spotF L k : Int) + 1) = (spotF L k : Int) + 1 := IntWalk.i64_in _ (by omega)
    have hi1 : (spotF L k : Int) + 1 ≤ (L.length : Int) := by omega
    have hi2 : (0 : Int) ≤ (spotF L k : Int) + 1 := by omega
    have hi3 : ((spotF L k : Int) + 1).toNat = spotF L k + 1 := by omega
    have hi4 : (spotF L k : Int) + 1 ≤ (c : Int) := by omega
    have HNum : Hid (numF L k = (L[spotF L k]).2) := Lib.hid (by unfold numF; rw [List.getElem?_eq_getElem hlt]; simp [he])
    generalize (L[spotF L k]).2 = q at *
    clear hi he k0
    go_upto_region 9 with (fail)
    by_cases hcj : c = spotF L k + 1
    · subst hcj
      have hM : L.drop (spotF L k + 1) = [] := List.drop_eq_nil_of_le (by omega)
      have hn0 : L.length - (spotF L k + 1) = 0 := by omega
      have HG3 := Lib.hid (show RefAt (insF L k n) (.slice (some ⟨g2, 0, none⟩) (spotF L k + 1) cap2) w3 from by
        have e : insF L k n = L.take (spotF L k) ++ [(k, n)] := by unfold insF; rw [HI.out]; simp only [if_pos]; rw [hM]
        rw [e]; exact hG2.mono (Nat.zero_le _))
      have HB3 := Lib.hid hb3
      clear hM
      go_wp2
      go_ret3
      exact ⟨_, by rw [HNum.out, HI.out]; first | done | rfl, HG3.out, HB3.out⟩
    · have hcn : ¬ c = spotF L k + 1 := hcj
      skip
      have hrows := rows_from (show RefAt L _ w3 from Grow.below H.out hb3) prCells_len (spotF L k + 1) (L.length - (spotF L k + 1)) (by omega) rfl (c - (spotF L k + 1))
      obtain ⟨v4, w4, hrun3, hG3, hgr3, hat3⟩ := append_all_run (P := Try.prog) (w := w3) 25 Try.underlying25 (.agg #[.string ⟨#[]⟩, .int .i64 0]) 24 infoRf rfl (by omega) hG2 (by have := hgr2.size; have := hb2.size; omega) prCells_len prCells_one (some ⟨b, (spotF L k + 1) * 2, none⟩) (L.length - (spotF L k + 1)) (c - (spotF L k + 1)) hrows (fun e => nomatch e) (by simp; unfold maxLen; omega) (by simp; omega)
      have HR3 := Lib.hid hrun3
      obtain ⟨va4, vc4, hv4⟩ := hG3.slice
      have HG3 := Lib.hid (show RefAt (insF L k n) v4 w4 from by
        have e : insF L k n = L.take (spotF L k) ++ [(k, n)] ++ L.drop (spotF L k + 1) := by unfold insF; rw [HI.out]; simp
        rw [e]; exact hG3.mono (Nat.zero_le _))
      have HB3 := Lib.hid (hb3.grown hgr3 hb3.size (fun j e => by have := own_base hG2 j e; have := hb1.size; omega))
      obtain ⟨ln, hln⟩ : ∃ ln, v4 = .slice va4 ln vc4 := ⟨_, hv4⟩
      clear hv4
      subst hln
      clear hrun3 hG3 hgr3 hat3 hrows
      go_wp2_with (at_builtin; refine wpList_append_eq (by rfl) _ _ 25 (by rfl) _ _ _ _ (by rfl) (by rfl) HR3.out ?_)
      go_ret3
      exact ⟨_, by rw [HNum.out, HI.out]; first | done | rfl, HG3.out, HB3.out⟩
  · rw [Bool.not_eq_true] at hi
    have HI := Lib.hid hi
    rw [hi]
    have HNum : Hid (numF L k = 0) := Lib.hid (num_no hi)
    have hL6 : (L.length : Int) ≤ 1000000 := by omega
    have hi1 : (spotF L k : Int) ≤ (L.length : Int) := by omega
    clear hi
    rcases a with _ | ad
    · obtain ⟨hc0, hL0⟩ := HC.out
      have hc0 := hc0 rfl
      have hL0 := hL0 rfl
      subst hc0 hL0
      have hs0 : spotF [] k = 0 := rfl
      have hl0 : ([] : List Pr).length = 0 := rfl
      obtain ⟨v4, w4, hrun3, hG3, hgr3, hat3⟩ := append_all_run (P := Try.prog) (w := w3) (M := []) 25 Try.underlying25 (.agg #[.string ⟨#[]⟩, .int .i64 0]) 24 infoRf rfl (by omega) hG2 (by have := hgr2.size; have := hb2.size; omega) prCells_len prCells_one none 0 0 (rows_none _ _) (fun _ => rfl) (by simp [maxLen]) (by simp)
      rw [List.append_nil] at hG3
      have HR3 := Lib.hid hrun3
      obtain ⟨va4, vc4, hv4⟩ := hG3.slice
      have HG3 := Lib.hid (show RefAt (insF [] k n) v4 w4 from hG3.mono (Nat.zero_le _))
      have HB3 := Lib.hid (hb3.grown hgr3 hb3.size (fun j e => by have := own_base hG2 j e; have := hb1.size; omega))
      obtain ⟨ln, hln⟩ : ∃ ln, v4 = .slice va4 ln vc4 := ⟨_, hv4⟩
      clear hv4
      subst hln
      clear hrun3 hG3 hgr3 hat3
      go_wp2_with (at_builtin; refine wpList_append_eq (by rfl) _ _ 25 (by rfl) _ _ _ _ (by rfl) (by rfl) HR3.out ?_)
      go_ret3
      exact ⟨_, by rw [HNum.out, HI.out]; first | done | rfl, HG3.out, HB3.out⟩
    · obtain ⟨b, rfl⟩ : ∃ b, ad = ⟨b, 0, none⟩ := by
        rcases H.out.2 with ⟨h', _⟩ | ⟨g, cap, cur, h', _⟩
        · simp at h'
        · simp only [Value.slice.injEq, Option.some.injEq] at h'
          exact ⟨g, h'.1⟩
      go_upto_region 9 with (fail)
      by_cases hcj : c = spotF L k
      · subst hcj
        have hM : L.drop (spotF L k) = [] := List.drop_eq_nil_of_le (by omega)
        have hn0 : L.length - (spotF L k) = 0 := by omega
        have HG3 := Lib.hid (show RefAt (insF L k n) (.slice (some ⟨g2, 0, none⟩) (spotF L k + 1) cap2) w3 from by
          have e : insF L k n = L.take (spotF L k) ++ [(k, n)] := by unfold insF; rw [HI.out]; simp only [Bool.false_eq_true, if_false, Nat.add_zero]; rw [hM]
          rw [e]; exact hG2.mono (Nat.zero_le _))
        have HB3 := Lib.hid hb3
        clear hM
        go_wp2
        go_ret3
        exact ⟨_, by rw [HNum.out, HI.out]; first | done | rfl, HG3.out, HB3.out⟩
      · have hcn : ¬ c = spotF L k := hcj
        have hrows := rows_from (show RefAt L _ w3 from Grow.below H.out hb3) prCells_len (spotF L k) (L.length - (spotF L k)) (by omega) rfl (c - (spotF L k))
        obtain ⟨v4, w4, hrun3, hG3, hgr3, hat3⟩ := append_all_run (P := Try.prog) (w := w3) 25 Try.underlying25 (.agg #[.string ⟨#[]⟩, .int .i64 0]) 24 infoRf rfl (by omega) hG2 (by have := hgr2.size; have := hb2.size; omega) prCells_len prCells_one (some ⟨b, (spotF L k) * 2, none⟩) (L.length - (spotF L k)) (c - (spotF L k)) hrows (fun e => nomatch e) (by simp; unfold maxLen; omega) (by simp; omega)
        have HR3 := Lib.hid hrun3
        obtain ⟨va4, vc4, hv4⟩ := hG3.slice
        have HG3 := Lib.hid (show RefAt (insF L k n) v4 w4 from by
          have e : insF L k n = L.take (spotF L k) ++ [(k, n)] ++ L.drop (spotF L k) := by unfold insF; rw [HI.out]; simp [Bool.false_eq_true, Nat.add_zero]
          rw [e]; exact hG3.mono (Nat.zero_le _))
        have HB3 := Lib.hid (hb3.grown hgr3 hb3.size (fun j e => by have := own_base hG2 j e; have := hb1.size; omega))
        obtain ⟨ln, hln⟩ : ∃ ln, v4 = .slice va4 ln vc4 := ⟨_, hv4⟩
        clear hv4
        subst hln
        clear hrun3 hG3 hgr3 hat3 hrows
        go_wp2_with (at_builtin; refine wpList_append_eq (by rfl) _ _ 25 (by rfl) _ _ _ _ (by rfl) (by rfl) HR3.out ?_)
        go_ret3
        exact ⟨_, by rw [HNum.out, HI.out]; first | done | rfl, HG3.out, HB3.out⟩
set_option maxRecDepth 100000 in
set_option maxHeartbeats 1000000 in
theorem refDelete_any (L : List Pr) (v : Value) (hL : L.length ≤ 1000000) (k : Key) (w : World) (h : RefAt L v w) :
    Calls Try.prog 27 #[v, .string (bs k)] w (RSetGot (delF L k) L k w) := by
  have HA := Lib.hid (refAt_any L v hL k w h)
  obtain ⟨a, c, rfl⟩ := h.slice
  have HG := Lib.hid (RefAt.get h).2
  have H := Lib.hid h
  have hsp := spotF_le L k
  obtain ⟨hc1, hc2, hc3⟩ := RefAt.cap h
  have HC := Lib.hid (And.intro hc2 hc3)
  have hil : (spotF L k : Int) ≤ (c : Int) := by omega
  clear h hc2 hc3
  by_cases hi : hasF L k = true
  · have HI := Lib.hid hi
    rw [hi] at HA
    obtain ⟨hlt, he⟩ := hasF_lt hi
    obtain ⟨b, rfl, k0, k1⟩ := HG.out _ hlt
    have HNum : Hid (numF L k = (L[spotF L k]).2) := Lib.hid (by unfold numF; rw [List.getElem?_eq_getElem hlt]; simp [he])
    have hil2 : (spotF L k : Int) < (L.length : Int) := by omega
    have hL6 : (L.length : Int) ≤ 1000000 := by omega
    have hwi : IntKind.i64.wrap ((spotF L k : Int) + 1) = (spotF L k : Int) + 1 := IntWalk.i64_in _ (by omega)
    have hi1 : (spotF L k : Int) + 1 ≤ (L.length : Int) := by omega
    have hi2 : (0 : Int) ≤ (spotF L k : Int) + 1 := by omega
    have hi3 : ((spotF L k : Int) + 1).toNat = spotF L k + 1 := by omega
    have hi4 : (spotF L k : Int) + 1 ≤ (c : Int) := by omega
    generalize (L[spotF L k]).2 = q at *
    clear hi he k0
    go_enter Try.func27, Try.ntmps27
    go_upto_region 5 with (go_at_call 31; (with_reducible refine HA.out.mono ?_); rintro e w1 ⟨rfl, hb1⟩)
    have hr1 := RefAt.upto (show RefAt L _ w1 from Grow.below H.out hb1) (spotF L k) hsp
    obtain ⟨v1, w2, hrun1, hG1, hgr1, hat1⟩ := append_all_run (P := Try.prog) (w := w1) (k := 2) (enc := prCells) (T := RfT) (L := []) (base := w1.heap.size) 25 Try.underlying25 (.agg #[.string ⟨#[]⟩, .int .i64 0]) 24 infoRf rfl (by omega) (Grow.nil w1) (Nat.le_refl _) prCells_len prCells_one (some ⟨b, 0, none⟩) (spotF L k) c hr1 (fun e => nomatch e) (by simp; unfold maxLen; omega) (by simp; omega)
    rw [List.nil_append] at hG1
    have hb2 : Below w1.heap.size w1 w2 := (Below.refl _ w1).grown hgr1 (Nat.le_refl _) (by intro j e; cases e)
    have hlt1 : (L.take (spotF L k)).length = spotF L k := by simp; omega
    obtain ⟨va, vc, hv1⟩ := hG1.slice
    rw [hlt1] at hv1
    subst hv1
    have HR1 := Lib.hid hrun1
    clear hrun1 hr1
    go_upto_region 6 with (at_builtin; refine wpList_append_eq (by rfl) _ _ 25 (by rfl) _ _ _ _ (by rfl) (by rfl) HR1.out ?_; clear HR1)
    have hb12 := hb1.trans (hb2.mono hb1.size)
    have k2 := Grew.cell hb12 k1
    have hbl : b < w.heap.size := block_lt_of_cell k1
    by_cases hcj : c = spotF L k + 1
    · subst hcj
      have hM : L.drop (spotF L k + 1) = [] := List.drop_eq_nil_of_le (by omega)
      have hn0 : L.length - (spotF L k + 1) = 0 := by omega
      obtain ⟨v4, w4, hrun3, hG3, hgr3, hat3⟩ := append_all_run (P := Try.prog) (w := w2.drew) (M := []) 25 Try.underlying25 (.agg #[.string ⟨#[]⟩, .int .i64 0]) 24 infoRf rfl (by omega) hG1.drew hb2.size prCells_len prCells_one (some ⟨b, 0, none⟩) 0 0 (rows_none _ _) (fun _ => rfl) (by simp; unfold maxLen; omega) (by simp; omega)
      rw [List.append_nil] at hG3
      have HR3 := Lib.hid hrun3
      obtain ⟨va4, vc4, hv4⟩ := hG3.slice
      have HG3 := Lib.hid (show RefAt (delF L k) v4 w4 from by
        have e : delF L k = L.take (spotF L k) := by unfold delF; rw [HI.out, if_pos rfl]; unfold cutL; rw [hM, List.append_nil]
        rw [e]; exact hG3.mono (Nat.zero_le _))
      have hb4 := (hb12.drew).grown hgr3 (hb12.drew).size (fun j e => by have := own_base hG1 j e; have := hb1.size; omega)
      have k4 := (hb4.cell (p := ⟨b, spotF L k * 2 + 1, none⟩) hbl).trans k1
      have HB3 := Lib.hid hb4
      obtain ⟨ln, hln⟩ : ∃ ln, v4 = .slice va4 ln vc4 := ⟨_, hv4⟩
      clear hv4
      subst hln
      clear hrun3 hG3 hgr3 hat3 hb4 hM
      refine wp_region_last [true, true, true, true, true, false, true, true, true, true, true, false, false, false] (fun W => W.cell? ⟨b, spotF L k * 2 + 1, none⟩ = some (.int .i64 q)) (by kernel_rfl) (by kernel_rfl) (fun _ _ d _ _ h => by cases d <;> exact h) k2 ?_
      simp only [List.map, Bool.not_true, Bool.not_false, pickM_yes, pickM_no, pickM_nil]
      repeat ((refine wpHeld_step ?_ rfl (fun W hW => ?_) ?_; rotate_left; focus ((try dsimp only at hW); go_simp; try with_reducible rfl)); simp only [Act.put, List.setIfInBounds_toArray, List.set_cons_zero, List.set_cons_succ])
      refine wpHeld_nil ?_
      refine wpHeavy_step (fun K hK => ?_)
      refine step_append_eq (by rfl) (.tmp 24) (.tmp 28) 25 (by rfl) _ _ _ _ (by rfl) (by rfl) HR3.out ?_
      refine hK.out _ _ (fun _ => k4) ?_
      clear hK K
      (try simp only [Act.put, List.setIfInBounds_toArray, List.set_cons_zero, List.set_cons_succ])
      refine wpHeavy_step (fun K hK => ?_)
      go_simp
      refine hK.out _ _ (fun _ => k4) ?_
      clear hK K
      (try simp only [Act.put, List.setIfInBounds_toArray, List.set_cons_zero, List.set_cons_succ])
      refine wpHeavy_step (fun K hK => ?_)
      go_simp
      refine hK.out _ _ (fun _ => k4) ?_
      clear hK K
      (try simp only [Act.put, List.setIfInBounds_toArray, List.set_cons_zero, List.set_cons_succ])
      refine wpHeavy_step (fun K hK => ?_)
      go_simp
      refine hK.out _ _ (fun h' => absurd rfl h') ?_
      clear hK K
      (try simp only [Act.put, List.setIfInBounds_toArray, List.set_cons_zero, List.set_cons_succ])
      refine wpHeavy_nil ?_
      go_wp2
      go_ret3
      exact ⟨_, by rw [HNum.out, HI.out]; first | done | rfl, HG3.out, HB3.out⟩
    · have hrows := rows_from (show RefAt L _ w2.drew from Grow.below H.out (hb12.drew)) prCells_len (spotF L k + 1) (L.length - (spotF L k + 1)) (by omega) rfl (c - (spotF L k + 1))
      obtain ⟨v4, w4, hrun3, hG3, hgr3, hat3⟩ := append_all_run (P := Try.prog) (w := w2.drew) 25 Try.underlying25 (.agg #[.string ⟨#[]⟩, .int .i64 0]) 24 infoRf rfl (by omega) hG1.drew hb2.size prCells_len prCells_one (some ⟨b, (spotF L k + 1) * 2, none⟩) (L.length - (spotF L k + 1)) (c - (spotF L k + 1)) hrows (fun e => nomatch e) (by simp; unfold maxLen; omega) (by simp; omega)
      have HR3 := Lib.hid hrun3
      obtain ⟨va4, vc4, hv4⟩ := hG3.slice
      have HG3 := Lib.hid (show RefAt (delF L k) v4 w4 from by
        have e : delF L k = L.take (spotF L k) ++ L.drop (spotF L k + 1) := by unfold delF; rw [HI.out, if_pos rfl]; rfl
        rw [e]; exact hG3.mono (Nat.zero_le _))
      have hb4 := (hb12.drew).grown hgr3 (hb12.drew).size (fun j e => by have := own_base hG1 j e; have := hb1.size; omega)
      have k4 := (hb4.cell (p := ⟨b, spotF L k * 2 + 1, none⟩) hbl).trans k1
      have HB3 := Lib.hid hb4
      obtain ⟨ln, hln⟩ : ∃ ln, v4 = .slice va4 ln vc4 := ⟨_, hv4⟩
      clear hv4
      subst hln
      clear hrun3 hG3 hgr3 hat3 hrows hb4
      refine wp_region_last [true, true, true, true, true, false, true, true, true, true, true, false, false, false] (fun W => W.cell? ⟨b, spotF L k * 2 + 1, none⟩ = some (.int .i64 q)) (by kernel_rfl) (by kernel_rfl) (fun _ _ d _ _ h => by cases d <;> exact h) k2 ?_
      simp only [List.map, Bool.not_true, Bool.not_false, pickM_yes, pickM_no, pickM_nil]
      repeat ((refine wpHeld_step ?_ rfl (fun W hW => ?_) ?_; rotate_left; focus ((try dsimp only at hW); go_simp; try with_reducible rfl)); simp only [Act.put, List.setIfInBounds_toArray, List.set_cons_zero, List.set_cons_succ])
      refine wpHeld_nil ?_
      refine wpHeavy_step (fun K hK => ?_)
      refine step_append_eq (by rfl) (.tmp 24) (.tmp 28) 25 (by rfl) _ _ _ _ (by rfl) (by rfl) HR3.out ?_
      refine hK.out _ _ (fun _ => k4) ?_
      clear hK K
      (try simp only [Act.put, List.setIfInBounds_toArray, List.set_cons_zero, List.set_cons_succ])
      refine wpHeavy_step (fun K hK => ?_)
      go_simp
      refine hK.out _ _ (fun _ => k4) ?_
      clear hK K
      (try simp only [Act.put, List.setIfInBounds_toArray, List.set_cons_zero, List.set_cons_succ])
      refine wpHeavy_step (fun K hK => ?_)
      go_simp
      refine hK.out _ _ (fun _ => k4) ?_
      clear hK K
      (try simp only [Act.put, List.setIfInBounds_toArray, List.set_cons_zero, List.set_cons_succ])
      refine wpHeavy_step (fun K hK => ?_)
      go_simp
      refine hK.out _ _ (fun h' => absurd rfl h') ?_
      clear hK K
      (try simp only [Act.put, List.setIfInBounds_toArray, List.set_cons_zero, List.set_cons_succ])
      refine wpHeavy_nil ?_
      go_wp2
      go_ret3
      exact ⟨_, by rw [HNum.out, HI.out]; first | done | rfl, HG3.out, HB3.out⟩
  · rw [Bool.not_eq_true] at hi
    have HI := Lib.hid hi
    rw [hi] at HA
    have HNum : Hid (numF L k = 0) := Lib.hid (num_no hi)
    have hD : delF L k = L := by unfold delF; rw [hi, if_neg (by simp)]
    rw [hD]
    clear hi hD
    go_enter Try.func27, Try.ntmps27
    go_wp2_with (go_at_call 31; (with_reducible refine HA.out.mono ?_); rintro e w1 ⟨rfl, hb1⟩)
    go_ret3
    exact ⟨_, by rw [HNum.out, HI.out]; first | done | rfl, Grow.below H.out hb1, hb1⟩
end Go.Proofs.Yteoibolompiohaa
