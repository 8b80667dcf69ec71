/- The walk of DiskUsed. Conditions: as each theorem says. -/
import Derived.Test.YtbaffabemomgjaaDskM
namespace Go.Proofs.Ytbaffabemomgjaa
open Go.RowKit

/-- How many bytes the first so many files have. -/
def sumK (M : Dir) (k : Nat) : Nat := total (M.take k)
theorem sumK_step (M : Dir) (k : Nat) (h : k < M.length) : sumK M (k + 1) = sumK M k + M[k].2.d.length := by
  unfold sumK
  rw [List.take_succ_eq_append_getElem h]
  unfold total
  rw [List.map_append, List.sum_append]
  simp
theorem sumK_all (M : Dir) : sumK M M.length = total M := by unfold sumK; rw [List.take_length]
theorem sumK_le (M : Dir) (k : Nat) : sumK M k ≤ total M := by
  have h : total (M.take k) + total (M.drop k) = total M := by
    unfold total
    rw [← List.sum_append, ← List.map_append, List.take_append_drop]
  unfold sumK
  omega
/-- The files that are there to see. -/
def seenM (d : Dk) : Dir := if d.dead then [] else d.m
theorem seen_names (d : Dk) : namesD d = (seenM d).map (·.1) := by unfold namesD seenM; split <;> rfl
theorem seen_used (d : Dk) : usedD d = total (seenM d) := by unfold usedD seenM; split <;> rfl
theorem seen_read {d : Dk} (hf : d.fit) (k : Nat) (h : k < (seenM d).length) : readD d (seenM d)[k].1 = ((seenM d)[k].2.d, 0) := by
  unfold seenM at h ⊢
  by_cases hd : d.dead = true
  · simp [hd] at h
  · simp only [if_neg hd] at h ⊢
    have hg : getM d.m d.m[k].1 = some d.m[k].2 := get_of_mem hf.sorted (List.getElem_mem h)
    have ht : thereD d d.m[k].1 = 0 := by unfold thereD; rw [if_neg hd, hg]; rfl
    unfold readD
    rw [ht, if_neg (by decide)]
    unfold getF
    rw [hg]; rfl
theorem seen_sorted {d : Dk} (hf : d.fit) (k : Nat) (h : k + 1 < (seenM d).length) : bytesBefore ((seenM d)[k]'(by omega)).1 ((seenM d)[k + 1]'h).1 = true := by
  have hs : (seenM d).sorted := by unfold seenM; split; exact List.Pairwise.nil; exact hf.sorted
  exact (List.pairwise_iff_getElem.1 hs) k (k + 1) (by omega) h (by omega)
theorem seen_le (d : Dk) : (seenM d).length ≤ d.m.length := by unfold seenM; split <;> simp
theorem seen_total {d : Dk} (hf : d.fit) : (total (seenM d) : Int) ≤ d.limit := by
  have := hf.used
  unfold seenM
  split
  · have := hf.lo; simp [total]; omega
  · exact hf.used
theorem seen_keys {d : Dk} {b : Nat} {w : World} (h : FilesAt b d.m w) : ∀ p ∈ seenM d, p.1.length ≤ maxLen := by
  intro p hp
  unfold seenM at hp
  split at hp
  · cases hp
  · exact h.keyLen p hp
theorem less_before : ∀ (a b : Bys), Op.bytesLess a b = bytesBefore a b := by
  intro a
  induction a with
  | nil => intro b; cases b <;> rfl
  | cons x r ih =>
    intro b
    cases b with
    | nil => rfl
    | cons y s =>
      rw [bytesBefore, Op.bytesLess, ih]
set_option maxRecDepth 100000 in
theorem run_geq_str (a b : Bys) (h : bytesBefore a b = true) (W : World) : (binOp .geq StT (.string (bs a)) (.string (bs b))).run Try.prog W = .ok (.bool false) W := by
  have h2 : Op.bytesLess (bs a).toList (bs b).toList = true := by rw [bs_toList, bs_toList, less_before]; exact h
  go_simp
set_option maxRecDepth 100000 in
set_option maxHeartbeats 3200000 in
theorem used_law (limit : Int) (L : List Dop) (a : Option Addr) (cap : Nat) (w : World) (hL : RowsAt 5 dopCells w (.slice a L.length cap) L) (hok : ∀ o ∈ L, o.ok w) (hn : L.length ≤ maxLen) :
    Calls Try.prog 5 #[.int .i64 limit, .slice a L.length cap] w fun e w' => e = .returned (.bool true) ∧ Below w.heap.size w w' := by
  unfold maxLen at hn
  by_cases hbad : limit < 1 ∨ 1073741824 < limit
  · as_aux_lemma =>
    have HN := Lib.hid (newBad_any limit hbad w)
    by_cases h1 : limit < 1
    · have d1 : decide (limit < 1) = true := decide_eq_true h1
      clear hbad h1 hL hok
      go_enter Try.func5, Try.ntmps5
      go_wp2_with (first | (go_at_call 6; refine HN.out.mono ?_; rintro e w' ⟨rfl, rfl⟩) | (go_at_call 7; refine (dawake_any _).mono ?_; rintro e w9 ⟨rfl, hb9⟩))
      go_ret
      exact ⟨rfl, hb9⟩
    · have d1 : decide (limit < 1) = false := decide_eq_false h1
      have d2 : decide (1073741824 < limit) = true := decide_eq_true (by omega)
      clear hbad h1 hL hok
      go_enter Try.func5, Try.ntmps5
      go_wp2_with (first | (go_at_call 6; refine HN.out.mono ?_; rintro e w' ⟨rfl, rfl⟩) | (go_at_call 7; refine (dawake_any _).mono ?_; rintro e w9 ⟨rfl, hb9⟩))
      go_ret
      exact ⟨rfl, hb9⟩
  · have HN := Lib.hid (new_any limit (by omega) (by omega) w)
    have Hf0 := Lib.hid (newD_fit limit (by omega) (by omega))
    have HL := Lib.hid (fun w2 (h : Below w.heap.size w w2) => hL.grew h)
    have HOk := Lib.hid (fun w2 (h : Below w.heap.size w w2) o (ho : o ∈ L) => (hok o ho).grew h)
    clear hbad hL hok
    unfold ptrV at HN
    go_enter Try.func5, Try.ntmps5
    go_wp2_with (fail)
    refine HN.out.mono ?_
    rintro e w1 ⟨rfl, hD, hB⟩
    have H1 : Hid (DkSt w (w.heap.size + 1) w.heap.size (newD limit) w1) := Lib.hid (DkSt.made w hD hB)
    clear hD hB HN
    go_wp2_with (fail)
    go_loopw [7] (fun v7 wr => ∃ (i : Nat) (d : Dk), v7 = .int .i64 (i : Int) ∧ i ≤ L.length ∧ i ≤ 80 ∧ d.fit ∧ d.limit = limit ∧ d.m.length ≤ i ∧ DkSt w (w.heap.size + 1) w.heap.size d wr) (fun v7 _ => L.length - (intOf v7).toNat)
    case atStart => exact ⟨0, _, rfl, by omega, by omega, Hf0.out, rfl, Nat.le_refl _, H1.out⟩
    case round =>
      obtain ⟨i, d, rfl, hi, hi80, hf, hlim, hdl, hS⟩ := hrel
      have HF := Lib.hid hf
      have HS := Lib.hid hS
      have HLim := Lib.hid hlim
      clear hf hS H1 Hf0 hlim
      by_cases h : i < L.length ∧ i < 80
      · obtain ⟨h, h80⟩ := h
        have q0 : decide (i < L.length) = true := decide_eq_true h
        have q1 : decide ((i : Int) < 80) = true := decide_eq_true (by omega)
        obtain ⟨bb, off, hab, hrg⟩ := (HL.out wr HS.out.bel).get i h
        have HOo := Lib.hid (HOk.out wr HS.out.bel L[i] (List.getElem_mem h))
        generalize L[i] = o at *
        subst hab
        have c0 : wr.cell? ⟨bb, off + i * 5, none⟩ = some (.int .i64 o.ask) := hrg 0 _ rfl
        have c1 : wr.cell? ⟨bb, off + i * 5 + 1, none⟩ = some (.string (bs o.name)) := hrg 1 _ rfl
        have c2 : wr.cell? ⟨bb, off + i * 5 + 2, none⟩ = some (.string (bs o.data)) := hrg 2 _ rfl
        have c3 : wr.cell? ⟨bb, off + i * 5 + 3, none⟩ = some (.int .i64 o.n) := hrg 3 _ rfl
        have c4 : wr.cell? ⟨bb, off + i * 5 + 4, none⟩ = some (.slice o.ka o.keeps.length o.kc) := hrg 4 _ rfl
        have HFw := Lib.hid (fun W => few_any o W)
        unfold dopV at HFw
        clear hrg
        cases hfew : fewB o with
        | false =>
          as_aux_lemma =>
          rw [hfew] at HFw
          go_wp2_with (first | (go_at_call 18; refine (HFw.out _).mono ?_; rintro e w2 ⟨rfl, hb2⟩) | (go_at_call 7; refine (dawake_any _).mono ?_; rintro e w9 ⟨rfl, hb9⟩))
          go_ret
          exact ⟨rfl, HS.out.bel.trans ((hb2.trans (hb9.mono hb2.size)).mono HS.out.bel.size)⟩
        | true =>
          as_aux_lemma =>
          rw [hfew] at HFw
          clear hfew
          go_wp2_with (fail)
          refine (HFw.out _).mono ?_
          rintro e w2 ⟨rfl, hb2⟩
          have HS2 := Lib.hid (HS.out.grew hb2)
          have HO2 := Lib.hid (HOo.out.grew hb2)
          have c0 := Grew.cell hb2 c0
          have c1 := Grew.cell hb2 c1
          have c2 := Grew.cell hb2 c2
          have c3 := Grew.cell hb2 c3
          have c4 := Grew.cell hb2 c4
          have HDo := Lib.hid (do_any HS2.out.at_ HF.out (by omega) o HO2.out)
          have HFd := Lib.hid (do_fit HF.out o HO2.out.n)
          have HLd := Lib.hid ((do_limit d o).trans HLim.out)
          have hld := do_length d o
          have hld2 : (doD d o).1.m.length ≤ i + 1 := by omega
          unfold ptrV dopV at HDo
          clear hb2 HFw HOo HLim
          obtain ⟨d2, hd2⟩ : ∃ d2, d2 = (doD d o).1 := ⟨_, rfl⟩
          rw [← hd2] at HDo HFd HLd hld2
          clear hd2 hld
          go_wp2_with (fail)
          refine HDo.out.mono ?_
          rintro e w3 hk
          obtain ⟨rfl, hS3⟩ := HS2.out.done hk
          have HS3 := Lib.hid hS3
          clear hk hS3 HDo HS2 HO2 HS c0 c1 c2 c3 c4
          have HNm := Lib.hid (names_any HS3.out.at_ HFd.out (by omega))
          unfold ptrV at HNm
          go_wp2_with (fail)
          refine HNm.out.mono ?_
          rintro e w4 ⟨v, rfl, hG, hB4⟩
          have HS4 := Lib.hid (HS3.out.grew hB4)
          obtain ⟨M, hM⟩ : ∃ M, M = seenM d2 := ⟨_, rfl⟩
          have hN := seen_names d2
          obtain ⟨N, hN2⟩ : ∃ N, N = namesD d2 := ⟨_, rfl⟩
          rw [← hN2] at hG hN
          rw [← hM] at hN
          have hNl : N.length = M.length := by rw [hN, List.length_map]
          have hMl : M.length ≤ 81 := by have := seen_le d2; rw [← hM] at this; omega
          have hMt : (total M : Int) ≤ limit := by have := seen_total HFd.out; rw [← hM, HLd.out] at this; exact this
          have hlh : limit ≤ 1073741824 := by have := HFd.out.hi; rw [HLd.out] at this; exact this
          obtain ⟨na, nc, hv⟩ := hG.slice
          subst hv
          rw [hNl] at hG
          have HG := Lib.hid hG
          have HM := Lib.hid hM
          have HN := Lib.hid hN
          have HNl := Lib.hid hNl
          have Hsk := Lib.hid (fun k => sumK_le M k)
          rw [hNl]
          clear hG hB4 hM hN hN2 hNl HS3 HNm
          go_wp2_with (fail)
          obtain ⟨wo, hwo⟩ : ∃ wo : World, wo = w4 := ⟨_, rfl⟩
          subst hwo
          go_loopw [9, 10] (fun v9 v10 w5 => ∃ k : Nat, v10 = .int .i64 (k : Int) ∧ k ≤ M.length ∧ v9 = .int .i64 (sumK M k : Int) ∧ Grow StT 1 strCells w3.heap.size (.slice na M.length nc) N w5 ∧ DkSt w (w.heap.size + 1) w.heap.size d2 w5) (fun _ v10 _ => M.length - (intOf v10).toNat)
          case atStart => exact ⟨0, rfl, by omega, by simp [sumK, total], HG.out, HS4.out⟩
          case round =>
            obtain ⟨k, rfl, hk, rfl, hG5, hS5⟩ := hrel
            have HG5 := Lib.hid hG5
            have HS5 := Lib.hid hS5
            have hsk := Hsk.out k
            clear hG5 hS5
            by_cases hkn : k < M.length
            · as_aux_lemma =>
              have hkN : k < N.length := by have := HNl.out; omega
              have hNk : ∀ j (hj : j < M.length) (hj2 : j < N.length), N[j] = M[j].1 := fun j hj hj2 => by simp only [HN.out, List.getElem_map]
              obtain ⟨nb, nc2, hna, _⟩ := HG5.out.form (by omega)
              have hna2 : na = some ⟨nb, 0, none⟩ := by simp only [Value.slice.injEq] at hna; exact hna.1
              subst hna2
              have hrow := HG5.out.cells (fun _ => rfl) (by rw [HNl.out]) k hkN
              rw [hNk k hkn hkN, Nat.mul_one] at hrow
              have n0 : wr.cell? ⟨nb, k, none⟩ = some (.string (bs M[k].1)) := hrow 0 _ rfl
              have hrd : readD d2 M[k].1 = (M[k].2.d, 0) := by
                have h1 := seen_read HFd.out k (by rw [← HM.out]; exact hkn)
                simp only [← HM.out] at h1
                exact h1
              have hkl : M[k].1.length ≤ maxLen := seen_keys HS5.out.at_.files _ (by rw [← HM.out]; exact List.getElem_mem _)
              have HRd := Lib.hid (fun (W : World) (hW : DkAt (w.heap.size + 1) w.heap.size d2 W) => read_any hW M[k].1 hkl)
              rw [hrd] at HRd
              have Hst := Lib.hid (sumK_step M k hkn)
              have hsk1 := Hsk.out (k + 1)
              have hbl : (bs M[k].2.d).size = M[k].2.d.length := bs_size _
              have hsum : sumK M k + M[k].2.d.length ≤ total M := by rw [← Hst.out]; exact hsk1
              have HG9 := Lib.hid (fun (W : World) (hW : Below wr.heap.size wr W) => HG5.out.below hW)
              have Hq : Hid (k = 0 ∨ ∃ (h0 : k - 1 < M.length) (_ : k ≠ 0), bytesBefore M[k - 1].1 M[k].1 = true ∧ wr.cell? ⟨nb, k - 1, none⟩ = some (.string (bs M[k - 1].1))) := by
                refine Lib.hid ?_
                by_cases h0 : k = 0
                · exact .inl h0
                · refine .inr ⟨by omega, h0, ?_, ?_⟩
                  · have h1 := seen_sorted HFd.out (k - 1) (by rw [← HM.out]; omega)
                    simp only [← HM.out] at h1
                    simpa [show k - 1 + 1 = k by omega] using h1
                  · have hrow2 := HG5.out.cells (fun _ => rfl) (by rw [HNl.out]) (k - 1) (by omega)
                    rw [hNk (k - 1) (by omega) (by omega), Nat.mul_one] at hrow2
                    exact hrow2 0 _ rfl
              unfold ptrV strV at HRd
              simp only at HRd
              clear hrow hrd hkl hNk hna hsk1
              generalize M[k].1 = kk at *
              generalize M[k].2.d = dd at *
              go_wp2_with (fail)
              refine (HRd.out _ HS5.out.at_).mono ?_
              rintro e w6 ⟨rfl, hb6⟩
              have HS6 := Lib.hid (HS5.out.grew hb6)
              have HG6 := Lib.hid (HG5.out.below hb6)
              have n0 := Grew.cell hb6 n0
              have hl2 : (total M : Int) ≤ 1073741824 := by omega
              rcases Hq.out with h0 | ⟨h0, hne, hlt, hc⟩
              · have q2 : decide (0 < k) = false := decide_eq_false (by omega)
                have q3 : decide ((0 : Int) < k) = false := decide_eq_false (by omega)
                clear hb6 HRd Hq h0
                go_wp2_with (fail)
                go_quiet (fail)
                have HS7 := Lib.hid (HS6.out.grew (below_drewN (Below.refl _ w6) nq))
                have HG7 := Lib.hid (HG6.out.below (below_drewN (Below.refl _ w6) nq))
                go_wp2
                go_roundw
                case rel => exact ⟨k + 1, by go_num, by omega, by rw [Hst.out]; go_num, HG7.out, HS7.out⟩
                case measure => simp [intOf]; omega
              · have q2 : decide (0 < k) = true := decide_eq_true (by omega)
                have q3 : decide ((0 : Int) < k) = true := decide_eq_true (by omega)
                have n1 := Grew.cell hb6 hc
                have hge := fun W => run_geq_str _ _ hlt W
                have hL2 : Op.bytesLess (bs M[k - 1].1).toList (bs kk).toList = true := by rw [bs_toList, bs_toList, less_before]; exact hlt
                have hL3 : (!Op.bytesLess (bs M[k - 1].1).toList (bs kk).toList) = false := by rw [hL2]; rfl
                generalize M[k - 1].1 = k1 at *
                have hi1 : (0 : Int) ≤ (k : Int) - 1 := by omega
                have hi2 : (k : Int) - 1 < (M.length : Int) := by omega
                have hi3 : IntKind.i64.wrap ((k : Int) - 1) = (k : Int) - 1 := IntWalk.i64_in _ (by omega)
                have hi4 : ((k : Int) - 1).toNat = k - 1 := by omega
                clear hb6 HRd Hq hlt hc
                go_wp2_with (fail)
                go_quiet (fail)
                have HS7 := Lib.hid (HS6.out.grew (below_drewN (Below.refl _ w6) nq))
                have HG7 := Lib.hid (HG6.out.below (below_drewN (Below.refl _ w6) nq))
                clear hi3 hi4 hge
                go_wp2
                go_roundw
                case rel => exact ⟨k + 1, by go_num, by omega, by rw [Hst.out]; go_num, HG7.out, HS7.out⟩
                case measure => simp [intOf]; omega
            · as_aux_lemma =>
              have HE : Hid (sumK M k = usedD d2) := Lib.hid (by rw [show k = M.length by omega, sumK_all, seen_used, ← HM.out])
              have HU := Lib.hid (used_any HS5.out.at_ HFd.out)
              rw [← HE.out] at HU
              unfold ptrV at HU
              have q4 : decide (limit < (sumK M k : Int)) = false := decide_eq_false (by omega)
              go_wp2_with (go_at_call 14; refine HU.out.mono ?_; rintro e w6 ⟨rfl, hb6⟩; have HS6 := Lib.hid (HS5.out.grew hb6); clear hb6)
              go_roundw
              case rel => exact ⟨i + 1, d2, by go_num, by omega, by omega, HFd.out, HLd.out, hld2, HS6.out⟩
              case measure => simp [intOf]; omega
      · as_aux_lemma =>
        have q0 : decide (i < L.length) = false ∨ (decide (i < L.length) = true ∧ decide ((i : Int) < 80) = false) := by
          by_cases h1 : i < L.length
          · exact .inr ⟨decide_eq_true h1, decide_eq_false (by omega)⟩
          · exact .inl (decide_eq_false h1)
        clear h
        rcases q0 with q0 | ⟨q0, q1⟩
        · go_wp2_with (go_at_call 7; refine (dawake_any _).mono ?_; rintro e w9 ⟨rfl, hb9⟩)
          go_ret
          exact ⟨rfl, HS.out.bel.trans (hb9.mono HS.out.bel.size)⟩
        · go_wp2_with (go_at_call 7; refine (dawake_any _).mono ?_; rintro e w9 ⟨rfl, hb9⟩)
          go_ret
          exact ⟨rfl, HS.out.bel.trans (hb9.mono HS.out.bel.size)⟩
end Go.Proofs.Ytbaffabemomgjaa
