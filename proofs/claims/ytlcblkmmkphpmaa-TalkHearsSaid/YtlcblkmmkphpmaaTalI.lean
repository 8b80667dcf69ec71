/- The law TalkAnswers walked; some. Conditions: as each theorem says. -/
import Derived.Test.YtlcblkmmkphpmaaTalH
namespace Go.Proofs.Ytlcblkmmkphpmaa
open Go.RowKit

theorem fewRs_is {x : Res} {L : List (Ans × Value)} (h : x.ans = L.map (·.1)) : fewRs x = (decide (L.length ≤ 30) && L.all (fun p => fewAn p.1)) := by
  unfold fewRs; rw [h, List.length_map, List.all_map]; rfl
set_option maxRecDepth 100000 in
set_option maxHeartbeats 1000000 in
theorem lsome_any (x : Res) (v : Value) (L : List (Ans × Value)) (w : World) (h : RsAt w x v L) (hs : x.sz) :
    Calls Try.prog 19 #[.agg (rsV x v).toArray] w fun e w' => e = .returned (.bool (fewRs x)) ∧ Below w.heap.size w w' := by
  have HFX := Lib.hid (fewRs_is h.hL)
  have hszL : L.length ≤ M63 ∧ ∀ p ∈ L, p.1.sz := by
    have h1 := hs.1
    have h2 := hs.2
    rw [h.hL, List.length_map] at h1
    exact ⟨h1, fun p hp => h2 _ (by rw [h.hL]; exact List.mem_map_of_mem hp)⟩
  obtain ⟨a1, p1, rfl⟩ := h.h1.form
  obtain ⟨W, hW⟩ : ∃ X, X = w.alloc (.cells (rsV x (.slice a1 L.length p1)).toArray 48) := ⟨_, rfl⟩
  have hB : Below w.heap.size w W := by rw [hW]; exact alloc_below w _
  have hb0 : BlkAt w.heap.size 48 (rsV x (.slice a1 L.length p1)) W := by rw [hW]; exact BlkAt.alloc_new w _ _
  have hh := h.grew hB
  have m3 := BlkAt.cell hb0 (i := 3) rfl
  have HB := Lib.hid hB
  have HW := Lib.hid hW
  have HR := Lib.hid hh.h1
  have HK := Lib.hid hh.h2
  have HSZ := Lib.hid hszL.2
  have n1 := hszL.1
  unfold M63 at n1
  clear h hW hB hb0 hh hs hszL
  unfold rsV at *
  go_enter Try.func19, Try.ntmps19
  go_upto_region 1 with (fail)
  rw [← HW.out]
  clear HW
  by_cases g1 : L.length ≤ 30
  · have t1 : decide ((30 : Int) < (L.length : Int)) = false := decide_eq_false (by omega)
    go_wp2_with (fail)
    go_loop [3, 4] (fun v3 v4 => ∃ i : Nat, v3 = .int .i64 (i : Int) ∧ i ≤ L.length ∧ Hid ((L.take i).all (fun p => fewAn p.1) = true)) (fun v3 v4 => L.length - (intOf v3).toNat)
    case atStart => exact ⟨0, rfl, by omega, by show _ = _; simp⟩
    case round =>
      obtain ⟨i, rfl, hi, hall⟩ := hrel
      by_cases hlt : i < L.length
      · have q0 : decide (i < L.length) = true := decide_eq_true hlt
        obtain ⟨bb, off, rfl, hc⟩ := HR.out.get i hlt
        have hki := HK.out _ (List.getElem_mem hlt)
        obtain ⟨a2, p2, hv2⟩ := hki.form
        have c1 : W.cell? ⟨bb, off + i * 4 + 1, none⟩ = some L[i].2 := hc 1 _ rfl
        rw [hv2] at c1 hki
        obtain ⟨hkn, hksz⟩ := HSZ.out _ (List.getElem_mem hlt)
        unfold M63 at hkn
        have HT := fun hh : fewAn L[i].1 = true => (all_take (fun p => fewAn p.1) L i hlt hall.out).trans hh
        have HF := fun hh : fewAn L[i].1 = false => all_stop (fun p => fewAn p.1) L i hlt hh
        clear hc hv2 hall
        generalize L[i].1 = y at *
        have HT := Lib.hid HT
        have HF := Lib.hid HF
        have HKI := Lib.hid hki
        have HKS := Lib.hid hksz
        clear hki hksz
        by_cases g2 : y.kvs.length ≤ 30
        · have t2 : decide ((30 : Int) < (y.kvs.length : Int)) = false := decide_eq_false (by omega)
          go_wp2_with (fail)
          go_loop [4] (fun v4 => ∃ k : Nat, v4 = .int .i64 (k : Int) ∧ k ≤ y.kvs.length ∧ Hid ((y.kvs.take k).all fewKv = true)) (fun v4 => y.kvs.length - (intOf v4).toNat)
          case atStart => exact ⟨0, rfl, by omega, by show _ = _; simp⟩
          case round =>
            obtain ⟨k, rfl, hk, hall⟩ := hrel
            by_cases hkt : k < y.kvs.length
            · have q1 : decide (k < y.kvs.length) = true := decide_eq_true hkt
              obtain ⟨b2, off2, rfl, hc⟩ := HKI.out.get k hkt
              have d0 : W.cell? ⟨b2, off2 + k * 6, none⟩ = some _ := hc 0 _ rfl
              have d1 : W.cell? ⟨b2, off2 + k * 6 + 1, none⟩ = some _ := hc 1 _ rfl
              have hsz := HKS.out _ (List.getElem_mem hkt)
              have s0 : (bs y.kvs[k].key).size ≤ 9223372036854775807 := by rw [bs_size]; exact hsz.1
              have s1 : (bs y.kvs[k].value).size ≤ 9223372036854775807 := by rw [bs_size]; exact hsz.2
              clear hc hsz
              by_cases k0 : y.kvs[k].key.length ≤ 1000
              · have u0 := big_no _ k0
                by_cases k1 : y.kvs[k].value.length ≤ 1000
                · have u1 := big_no _ k1
                  as_aux_lemma =>
                  have HT2 := Lib.hid (show (y.kvs.take (k + 1)).all fewKv = true by rw [all_take fewKv y.kvs k hkt hall.out]; unfold fewKv; simp [k0, k1])
                  clear hall k0 k1
                  generalize y.kvs[k] = z at *
                  go_wp2_with (fail)
                  go_round
                  case rel => exact ⟨k + 1, by go_num, by omega, HT2⟩
                  case measure => simp [intOf]; omega
                · as_aux_lemma =>
                  have u1 := big_yes _ k1
                  have HF2 := Lib.hid (HF.out (by unfold fewAn; rw [all_stop fewKv y.kvs k hkt (by unfold fewKv; simp [k1])]; simp))
                  clear hall k0 k1
                  generalize y.kvs[k] = z at *
                  go_wp2_with (fail)
                  go_ret
                  exact ⟨by rw [HFX.out, HF2.out, Bool.and_false]; rfl, HB.out⟩
              · as_aux_lemma =>
                have u0 := big_yes _ k0
                have HF2 := Lib.hid (HF.out (by unfold fewAn; rw [all_stop fewKv y.kvs k hkt (by unfold fewKv; simp [k0])]; simp))
                clear hall k0
                generalize y.kvs[k] = z at *
                go_wp2_with (fail)
                go_ret
                exact ⟨by rw [HFX.out, HF2.out, Bool.and_false]; rfl, HB.out⟩
            · as_aux_lemma =>
              have q1 : decide (k < y.kvs.length) = false := decide_eq_false hkt
              have HT2 := Lib.hid (HT.out (by unfold fewAn; rw [all_end fewKv y.kvs k hkt hall.out]; simp [g2]))
              clear hall
              go_wp2_with (fail)
              go_round
              case rel => exact ⟨i + 1, by go_num, by omega, HT2⟩
              case measure => simp [intOf]; omega
        · as_aux_lemma =>
          have t2 : decide ((30 : Int) < (y.kvs.length : Int)) = true := decide_eq_true (by omega)
          have HF2 := Lib.hid (HF.out (by unfold fewAn; simp [g2]))
          go_wp2_with (fail)
          go_ret
          exact ⟨by rw [HFX.out, HF2.out, Bool.and_false]; rfl, HB.out⟩
      · as_aux_lemma =>
        have q0 : decide (i < L.length) = false := decide_eq_false hlt
        have HF := Lib.hid (all_end (fun p : Ans × Value => fewAn p.1) L i hlt hall.out)
        clear hall
        go_wp2_with (fail)
        go_ret
        exact ⟨by rw [HFX.out, HF.out]; simp [g1], HB.out⟩
  · as_aux_lemma =>
    have t1 : decide ((30 : Int) < (L.length : Int)) = true := decide_eq_true (by omega)
    have HF : Hid (fewRs x = false) := Lib.hid (by rw [HFX.out]; simp [g1])
    go_wp2_with (fail)
    go_ret
    exact ⟨by rw [HF.out]; rfl, HB.out⟩
set_option maxRecDepth 100000 in
set_option maxHeartbeats 2000000 in
/-- THE LAW TalkAnswers. -/
theorem talkAnswers_walk (w : World) (v0 : Value) (h0 : IsRes w v0) :
    Calls Try.prog 6 #[v0] w fun e w' => e = .returned (.bool true) ∧ Below w.heap.size w w' := by
  obtain ⟨x, v, L, rfl, h, hi, hs⟩ := h0
  have hF := fun X hX => lsome_any x v L X hX hs
  have hok := fun hf : fewRs x = true => rs_ok hf hi
  obtain ⟨a1, p1, rfl⟩ := h.h1.form
  generalize fewRs x = F at *
  obtain ⟨W, hW⟩ : ∃ X, X = w.alloc (.cells (rsV x (.slice a1 L.length p1)).toArray 48) := ⟨_, rfl⟩
  have hB : Below w.heap.size w W := by rw [hW]; exact alloc_below w _
  have hb0 : BlkAt w.heap.size 48 (rsV x (.slice a1 L.length p1)) W := by rw [hW]; exact BlkAt.alloc_new w _ _
  have HR := Lib.hid (h.grew hB)
  have HM := Lib.hid hb0
  have HB := Lib.hid hB
  have HW := Lib.hid hW
  have HA := Lib.hid (fun X => awake_any X)
  have HF := Lib.hid (fun X (hX : Grew W X) => hF X (HR.out.grew hX))
  clear h hW hB hb0 hF hi hs
  unfold rsV at *
  cases F with
  | false =>
    clear hok
    go_enter Try.func6, Try.ntmps6
    go_upto_region 1 with (fail)
    rw [← HW.out]
    clear HW
    have hex := Grew.all W
    refine wp_region_grew (by kernel_rfl) (by kernel_rfl) ?_
    repeat (first | go_big_quiet_skip | (go_big_quiet_want; first | (refine quiet_load_mid 48 _ rfl (w.heap.size) 0 rfl [.int .i64 x.err, .int .i64 x.rev, .bool x.thn, .slice a1 L.length p1, .int .i64 x.ticks] _ (fun W hW => (HM.out.grew hW).range 0 _ (fun j hj => by rw [Nat.zero_add])) Try.underlying48 rfl (by kernel_rfl) ?_; simp only [Act.put, List.setIfInBounds_toArray, List.set_cons_succ, List.set_cons_zero]; go_big_quiet_on) | (go_big_quiet_op; first | go_big_quiet_on | (apply Exists.intro; refine ⟨fun W hW => ?_, ?_⟩; (first | exact rfl | (go_at_call 19; with_reducible exact Calls.grew hW (HF.out _ hW)) | (go_at_call 10; with_reducible exact Calls.grew hW (HA.out _))); go_big_quiet_on))))
    refine wpQuiet_nil ?_
    intro w3 hw3
    have hb3 : Below W.heap.size W w3 := hw3
    clear hex
    go_wp2
    go_ret
    exact ⟨rfl, HB.out.trans (hb3.mono HB.out.size)⟩
  | true =>
    obtain ⟨hok1, hlen⟩ := hok rfl
    have H1 := Lib.hid (fun X (hX : Grew W X) => answers_any x hok1 (.slice a1 L.length p1) L (by omega) X (HR.out.grew hX))
    have H2 := Lib.hid (fun X (hX : Grew W X) => refanswer_any x hok1 (.slice a1 L.length p1) L (by omega) X (HR.out.grew hX))
    unfold rsV at H1 H2
    clear hok hok1 hlen
    generalize rsC.enc x = P at *
    go_enter Try.func6, Try.ntmps6
    go_upto_region 1 with (fail)
    rw [← HW.out]
    clear HW
    have hex := Grew.all W
    refine wp_region_grew (by kernel_rfl) (by kernel_rfl) ?_
    repeat (first | go_big_quiet_skip | (go_big_quiet_want; first | (refine quiet_load_mid 48 _ rfl (w.heap.size) 0 rfl [.int .i64 x.err, .int .i64 x.rev, .bool x.thn, .slice a1 L.length p1, .int .i64 x.ticks] _ (fun W hW => (HM.out.grew hW).range 0 _ (fun j hj => by rw [Nat.zero_add])) Try.underlying48 rfl (by kernel_rfl) ?_; simp only [Act.put, List.setIfInBounds_toArray, List.set_cons_succ, List.set_cons_zero]; go_big_quiet_on) | (go_big_quiet_op; first | go_big_quiet_on | (apply Exists.intro; refine ⟨fun W hW => ?_, ?_⟩; (first | exact rfl | (go_at_call 19; with_reducible exact Calls.grew hW (HF.out _ hW)) | (go_at_call 20; with_reducible exact Calls.grew hW (H1.out _ hW)) | (go_at_call 21; with_reducible exact Calls.grew hW (H2.out _ hW)) | (go_at_call 10; with_reducible exact Calls.grew hW (HA.out _))); go_big_quiet_on))))
    refine wpQuiet_nil ?_
    intro w3 hw3
    have hb3 : Below W.heap.size W w3 := hw3
    clear hex
    go_wp2
    go_ret
    exact ⟨rfl, HB.out.trans (hb3.mono HB.out.size)⟩
end Go.Proofs.Ytlcblkmmkphpmaa
