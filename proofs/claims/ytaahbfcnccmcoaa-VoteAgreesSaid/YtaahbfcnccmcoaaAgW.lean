/- The walk of VoteAgrees. Conditions: as each theorem says. -/
import Derived.Test.YtaahbfcnccmcoaaAgQ
namespace Go.Proofs.Ytaahbfcnccmcoaa
open Go.RowKit

/-- The best of the first so many. -/
def BestOf (L : List WhoS) (i : Nat) (bv : Vot) : Prop :=
  (∀ j, j < i → 0 ≤ (ownB L j).e ∧ 0 ≤ (ownB L j).c ∧ 0 ≤ (ownB L j).p) ∧ (1 ≤ i → ∃ b, bv = ⟨b, 1, 1⟩ ∧ (∃ j, j < i ∧ b = ownB L j) ∧ ∀ j, j < i → betterB (ownB L j) b = false)
theorem BestOf.step {L : List WhoS} {i : Nat} {bv : Vot} (h : BestOf L i bv) (hn : 0 ≤ (ownB L i).e ∧ 0 ≤ (ownB L i).c ∧ 0 ≤ (ownB L i).p) (hb : i = 0 ∨ betterB (ownB L i) bv.b = true) : BestOf L (i + 1) ⟨ownB L i, 1, 1⟩ := by
  refine ⟨fun j hj => ?_, fun _ => ⟨_, rfl, ⟨i, by omega, rfl⟩, fun j hj => ?_⟩⟩
  · by_cases e : j = i
    · rw [e]; exact hn
    · exact h.1 j (by omega)
  · by_cases e : j = i
    · rw [e]; exact betterB_irrefl _
    · have h1 : 1 ≤ i := by omega
      rcases hb with hb | hb
      · omega
      · obtain ⟨b, rfl, _, h3⟩ := h.2 h1
        exact not_better_trans (h3 j (by omega)) (betterB_asymm hb)
theorem BestOf.stay {L : List WhoS} {i : Nat} {bv : Vot} (h : BestOf L i bv) (hn : 0 ≤ (ownB L i).e ∧ 0 ≤ (ownB L i).c ∧ 0 ≤ (ownB L i).p) (h0 : i ≠ 0) (hb : betterB (ownB L i) bv.b = false) : BestOf L (i + 1) bv := by
  refine ⟨fun j hj => ?_, fun _ => ?_⟩
  · by_cases e : j = i
    · rw [e]; exact hn
    · exact h.1 j (by omega)
  · obtain ⟨b, rfl, ⟨k, hk, hk2⟩, h3⟩ := h.2 (by omega)
    refine ⟨b, rfl, ⟨k, by omega, hk2⟩, fun j hj => ?_⟩
    by_cases e : j = i
    · rw [e]; exact hb
    · exact h3 j (by omega)
theorem who_range {w : World} {b off : Nat} {x : WhoS} (h : w.rangeAt b off (whoCells x)) : w.cell? ⟨b, off + 2, none⟩ = some (.int .i64 x.z.1) ∧ w.cell? ⟨b, off + 3, none⟩ = some (.int .i64 x.z.2) ∧ w.cell? ⟨b, off + 4, none⟩ = some (.int .i64 x.ep) := ⟨h 2 _ rfl, h 3 _ rfl, h 4 _ rfl⟩
set_option maxRecDepth 100000 in
set_option maxHeartbeats 6400000 in
theorem agrees_any (L : List WhoS) (a : Option Addr) (cap : Nat) (K : List Int) (c : Option Addr) (cap2 : Nat) (w : World) (hL : RowsAt 5 whoCells w (.slice a L.length cap) L) (hK : RowsAt 1 intCells w (.slice c K.length cap2) K) (hn : L.length ≤ maxLen) (hm : K.length ≤ maxLen) :
    Calls Try.prog 9 #[.slice a L.length cap, .slice c K.length cap2] w fun e w' => e = .returned (.bool true) ∧ Below w.heap.size w w' := by
  unfold maxLen at hn hm
  have HL := Lib.hid (fun w2 (h : Below w.heap.size w w2) => hL.grew h)
  have HK := Lib.hid (fun w2 (h : Below w.heap.size w w2) => hK.grew h)
  have hb1 := Lib.hid (alloc_below w)
  clear hL hK
  by_cases h1 : 1 ≤ L.length
  case neg =>
    as_aux_lemma =>
    have d1 : decide ((L.length : Int) < 1) = true := decide_eq_true (by omega)
    go_enter Try.func9, Try.ntmps9
    go_wp2_with (fail)
    refine (vawake_any _).mono ?_
    rintro e w9 ⟨rfl, hb9⟩
    go_wp2
    go_ret
    exact ⟨rfl, hb9⟩
  have d1 : decide ((L.length : Int) < 1) = false := decide_eq_false (by omega)
  by_cases h7 : L.length ≤ 7
  case neg =>
    as_aux_lemma =>
    have d2 : decide ((7 : Int) < L.length) = true := decide_eq_true (by omega)
    go_enter Try.func9, Try.ntmps9
    go_wp2_with (fail)
    refine (vawake_any _).mono ?_
    rintro e w9 ⟨rfl, hb9⟩
    go_wp2
    go_ret
    exact ⟨rfl, hb9⟩
  have d2 : decide ((7 : Int) < L.length) = false := decide_eq_false (by omega)
  by_cases k1 : 1 ≤ K.length
  case neg =>
    as_aux_lemma =>
    have d3 : ((K.length : Int) == 0) = true := by rw [beq_iff_eq]; omega
    go_enter Try.func9, Try.ntmps9
    go_wp2_with (fail)
    refine (vawake_any _).mono ?_
    rintro e w9 ⟨rfl, hb9⟩
    go_wp2
    go_ret
    exact ⟨rfl, hb9⟩
  have d3 : ((K.length : Int) == 0) = false := by rw [beq_eq_false_iff_ne]; omega
  by_cases k2 : K.length ≤ 1000
  case neg =>
    as_aux_lemma =>
    have d4 : decide ((1000 : Int) < K.length) = true := decide_eq_true (by omega)
    go_enter Try.func9, Try.ntmps9
    go_wp2_with (fail)
    refine (vawake_any _).mono ?_
    rintro e w9 ⟨rfl, hb9⟩
    go_wp2
    go_ret
    exact ⟨rfl, hb9⟩
  have d4 : decide ((1000 : Int) < K.length) = false := decide_eq_false (by omega)
  have HB0 : Hid (BlkAt w.heap.size VoT (votCells ⟨zeroBal, 0, 0⟩) (w.alloc (.cells #[.int .i64 0, .int .i64 0, .int .i64 0, .int .i64 0, .int .i64 0, .int .i64 0] VoT))) := Lib.hid (BlkAt.alloc_new w (votCells ⟨zeroBal, 0, 0⟩) VoT)
  go_enter Try.func9, Try.ntmps9
  go_wp2_with (fail)
  clear d1 d2 d3 d4
  go_loopw [5, 7] (fun v5 v7 wr => ∃ (i : Nat) (G : Nat → Nat) (bv : Vot), v7 = .int .i64 (i : Int) ∧ i ≤ L.length ∧ BestOf L i bv ∧ S1 w L.length i G (poll0 L L.length) w.heap.size bv v5 wr) (fun _ v7 _ => L.length - (intOf v7).toNat)
  case atStart => exact ⟨0, fun _ => 0, _, rfl, by omega, ⟨fun j hj => by omega, fun h => by omega⟩, HB0.out, Grow.nil _, fun j hj => by omega, fun j k hj => by omega, hb1.out _, fun j hj => by omega, rfl⟩
  case round =>
    obtain ⟨i, G, bv, rfl, hi, hbo, hS⟩ := hrel
    have HS := Lib.hid hS
    have HBo := Lib.hid hbo
    clear hbo hS
    by_cases h : i < L.length
    · obtain ⟨bb, off, hab, hrg⟩ := (HL.out wr HS.out.bel).get i h
      have Hown := Lib.hid (ownB_at L i h)
      obtain ⟨x, hx⟩ : ∃ x, x = L[i] := ⟨_, rfl⟩
      rw [← hx] at hrg Hown
      clear hx
      subst hab
      obtain ⟨c2, c3, c4⟩ := who_range hrg
      have HRg := Lib.hid hrg
      clear hrg
      by_cases hbad : badNew (i : Int) (L.length : Int) x.z x.ep
      · as_aux_lemma =>
        have HNB := Lib.hid (fun W => new_bad (i : Int) (L.length : Int) x.z x.ep hbad W)
        have hneg : x.ep < 0 ∨ x.z.1 < 0 ∨ x.z.2 < 0 := by unfold badNew at hbad; omega
        have HNg := Lib.hid hneg
        clear hbad hneg
        go_wp2_with (fail)
        have hex := Grew.all wr
        refine wp_region_grew (by kernel_rfl) (by kernel_rfl) ?_
        repeat (first | go_big_quiet_skip | (go_big_quiet_want; first | (refine quiet_load_mid 24 _ rfl bb (off + i * 5 + 2) rfl [.int .i64 x.z.1, .int .i64 x.z.2] _ (fun W hW => range2 (Grew.cell hW c2) (Grew.cell hW c3)) Try.underlying24 rfl (by kernel_rfl) ?_; simp only [Act.put, List.setIfInBounds_toArray, List.set_cons_succ, List.set_cons_zero]; go_big_quiet_on) | (refine quiet_load_cell 3 _ rfl ⟨bb, off + i * 5 + 4, none⟩ rfl _ _ Try.underlying3 rfl (fun W hW => Grew.cell hW c4) ?_; simp only [Act.put, List.setIfInBounds_toArray, List.set_cons_succ, List.set_cons_zero]; go_big_quiet_on) | (go_big_quiet_op; first | go_big_quiet_on | (apply Exists.intro; refine ⟨fun W hW => ?_, ?_⟩; (first | exact rfl | (go_at_call 26; with_reducible exact Calls.grew hW (HNB.out _))); go_big_quiet_on))))
        refine wpQuiet_nil ?_
        intro w2 hw2
        have c2 := Grew.cell hw2 c2
        have c3 := Grew.cell hw2 c3
        have c4 := Grew.cell hw2 c4
        have B2 := Lib.hid (HS.out.bel.trans (Below.mono (show Below wr.heap.size wr w2 from hw2) HS.out.bel.size))
        clear hex hw2
        clear HNB HL HK HRg
        by_cases e5 : x.ep < 0
        · have q5 : decide (x.ep < 0) = true := decide_eq_true e5
          clear HNg e5
          go_wp2_with (fail)
          refine (vawake_any _).mono ?_
          rintro e w9 ⟨rfl, hb9⟩
          go_wp2
          go_ret
          exact ⟨rfl, B2.out.trans (hb9.mono B2.out.size)⟩
        · have q5 : decide (x.ep < 0) = false := decide_eq_false e5
          by_cases e6 : x.z.1 < 0
          · have q6 : decide (x.z.1 < 0) = true := decide_eq_true e6
            clear HNg e5 e6
            go_wp2_with (fail)
            refine (vawake_any _).mono ?_
            rintro e w9 ⟨rfl, hb9⟩
            go_wp2
            go_ret
            exact ⟨rfl, B2.out.trans (hb9.mono B2.out.size)⟩
          · have q6 : decide (x.z.1 < 0) = false := decide_eq_false e6
            have q7 : decide (x.z.2 < 0) = true := decide_eq_true (by have := HNg.out; omega)
            clear HNg e5 e6
            go_wp2_with (fail)
            refine (vawake_any _).mono ?_
            rintro e w9 ⟨rfl, hb9⟩
            go_wp2
            go_ret
            exact ⟨rfl, B2.out.trans (hb9.mono B2.out.size)⟩
      · have hnn : 0 ≤ x.ep ∧ 0 ≤ x.z.1 ∧ 0 ≤ x.z.2 := by unfold badNew at hbad; omega
        have HNG := Lib.hid (fun W => new_any i L.length x.z x.ep h1 h7 h hnn.1 hnn.2.1 hnn.2.2 W)
        have hnew : (⟨(i : Int), x.z.1, x.z.2, x.ep⟩ : Bal) = ownB L i := Hown.out.symm
        rw [hnew] at HNG
        have Hon : Hid (0 ≤ (ownB L i).e ∧ 0 ≤ (ownB L i).c ∧ 0 ≤ (ownB L i).p) := Lib.hid (by rw [Hown.out]; exact ⟨hnn.2.1, hnn.2.2, hnn.1⟩)
        have HBg := Lib.hid (fun g W hW => begin_any g (newP i L.length (ownB L i)) (new_fit i L.length _ h1 h7 h) (by simp [newP, freshP]) (by simp [newP, freshP]) W hW)
        have HVo : Hid (∀ g W, PollAt g (poll0 L L.length i) W → Calls Try.prog 29 #[ptrV g] W fun e w' => e = .returned (votV ⟨ownB L i, 1, 1⟩) ∧ Below W.heap.size W w') := Lib.hid (fun g W hW => voteM_any g _ W hW)
        have HLb := Lib.hid (fun W => lbetter_any ⟨ownB L i, 1, 1⟩ bv W)
        unfold ptrV at HNG HBg HVo
        unfold votV at HVo HLb
        simp only at HVo HLb
        clear hnn hbad hnew
        obtain ⟨ob, hob⟩ : ∃ ob, ob = ownB L i := ⟨_, rfl⟩
        rw [← hob] at HVo HLb
        have Hob := Lib.hid hob
        clear hob
        go_wp2_with (fail)
        have hD := HS.out.drew
        go_region_held3 (fun w' => w'.cell? ⟨bb, off + i * 5 + 2, none⟩ = some (.int .i64 x.z.1) ∧ w'.cell? ⟨bb, off + i * 5 + 3, none⟩ = some (.int .i64 x.z.2) ∧ w'.cell? ⟨bb, off + i * 5 + 4, none⟩ = some (.int .i64 x.ep))
          (exact ⟨c2, c3, c4⟩)
          (first | (go_at_call 26; (with_reducible refine (HNG.out _).mono ?_); rintro e wN ⟨g, rfl, hg, hP, bN⟩; have hF := hD.fresh hg; have hgw := Nat.le_trans hD.bel.size hg; have hD := hD.grew bN; have c2 := Grew.cell bN c2; have c3 := Grew.cell bN c3; have c4 := Grew.cell bN c4))
        clear c2 c3 c4 bN hg
        try clear HNG HRg HL
        have HD := Lib.hid hD
        have HF := Lib.hid hF
        have HP := Lib.hid hP
        clear hD hF hP
        go_wp2_with (fail)
        refine (HBg.out g _ HP.out).mono ?_
        rintro e w3 ⟨rfl, hP3, hG3⟩
        have HP3 : Hid (PollAt g (poll0 L L.length i) w3) := Lib.hid hP3
        have HD3 := Lib.hid (HD.out.other HP.out hgw HF.out hG3)
        clear hP3 hG3 HD HP HBg
        by_cases hi0 : i = 0 ∨ (i ≠ 0 ∧ betterB ob bv.b = true)
        · have HBo2 : Hid (BestOf L (i + 1) ⟨ob, 1, 1⟩) := by
            rw [Hob.out]
            exact Lib.hid (HBo.out.step Hon.out (by rcases hi0 with h0 | h0; exact .inl h0; exact .inr (by rw [← Hob.out]; exact h0.2)))
          rcases hi0 with h0 | ⟨h0, hb⟩
          · as_aux_lemma =>
            have d0 : ((i : Int) == 0) = true := by rw [beq_iff_eq]; omega
            clear HLb h0
            go_wp2_with (fail)
            have hex := Grew.all w3
            refine wp_region_grew (by kernel_rfl) (by kernel_rfl) ?_
            repeat (first | go_big_quiet_skip | (go_big_quiet_want; first | (refine fail ?_; simp only [Act.put, List.setIfInBounds_toArray, List.set_cons_succ, List.set_cons_zero]; go_big_quiet_on) | (go_big_quiet_op; first | go_big_quiet_on | (apply Exists.intro; refine ⟨fun W hW => ?_, ?_⟩; (first | exact rfl); go_big_quiet_on))))
            refine wpQuiet_nil ?_
            intro w4 hw4
            have HD4 := Lib.hid (HD3.out.grew hw4)
            have HP4 := Lib.hid (BlkAt.grew HP3.out hw4)
            clear hex hw4 d0 HD3 HP3
            go_wp2_with (fail)
            refine (HVo.out g _ HP4.out).mono ?_
            rintro e w5 ⟨rfl, hb5⟩
            have HD5 := Lib.hid (HD4.out.grew hb5)
            have HP5 := Lib.hid (BlkAt.grew HP4.out hb5)
            clear hb5 HD4 HP4
            have HSt := Lib.hid (stores_of (P := Try.prog) (cs' := votCells ⟨ob, 1, 1⟩) HD5.out.best rfl infoVo (vot_one _))
            have HSu := Lib.hid (fun (W : World) (h1 : BlkAt w.heap.size VoT (votCells ⟨ob, 1, 1⟩) W) (h2 : w5.grownBy W (some w.heap.size)) => And.intro (HD5.out.setBest h1 h2) (BlkAt.grown HP5.out h2 (fun e => blk_ne HP5.out HD5.out.best (by decide) (Option.some.inj e))))
            unfold votCells at HSt
            simp only at HSt
            go_wp2_with (first | ((with_reducible refine HSt.out _ _ _ _ _ ?_ ?_ ?_); exact rfl; exact ⟨_, _, rfl, rfl, rfl⟩; intro w7 h7a g7a; have HD7 := Lib.hid (HSu.out w7 h7a g7a).1; have HP7 := Lib.hid (HSu.out w7 h7a g7a).2; clear h7a g7a HSt HSu HD5 HP5; have hrow := HD7.out.row; have hsz := HD7.out.bel.size; have hlr : ((List.range i).map G).length = i := (by simp); have HDa := Lib.hid (fun o => HD7.out.grew (alloc_below _ o)); have HPa := Lib.hid (fun o => BlkAt.grew HP7.out (alloc_below _ o)); have hszb : w.heap.size + 1 ≤ _ := (by have h9 := HD7.out.bN; have h8 := BlkAt.lt HD7.out.best; rw [h9] at h8; exact h8)) | (at_builtin; refine wpList_append_grow rfl _ _ _ rfl Try.underlying75 _ _ infoPt rfl (by decide) rfl hrow hszb g _ rfl rfl (ptr_one g) rfl (by rw [hlr]; unfold maxLen; omega) (by rw [hlr]; omega) ?_; intro v2 w6 hG6 hg6; have HD6 := Lib.hid ((HDa.out _).append HF.out hgw (HPa.out _) hG6 hg6); clear hG6 hg6))
            go_roundw
            case rel => exact ⟨i + 1, _, _, by go_num, by omega, HBo2.out, HD6.out⟩
            case measure => simp [intOf]; omega
          · as_aux_lemma =>
            have d0 : ((i : Int) == 0) = false := by rw [beq_eq_false_iff_ne]; omega
            rw [hb] at HLb
            have HVg := Lib.hid (fun W (hW : Grew w3 W) => HVo.out g W (BlkAt.grew HP3.out hW))
            have HBr := Lib.hid (fun (W : World) (hW : Below w3.heap.size w3 W) => BlkAt.range (BlkAt.grew HD3.out.best hW) 0 (votCells bv) (fun j hj => by rw [Nat.zero_add]))
            unfold votCells at HBr
            clear h0 hb
            go_wp2_with (fail)
            have hex := Grew.all w3
            refine wp_region_grew (by kernel_rfl) (by kernel_rfl) ?_
            repeat (first | go_big_quiet_skip | (go_big_quiet_want; first | (refine quiet_load_mid VoT _ rfl w.heap.size 0 rfl [.int .i64 bv.b.l, .int .i64 bv.b.e, .int .i64 bv.b.c, .int .i64 bv.b.p, .int .i64 bv.round, .int .i64 bv.state] _ (fun W hW => HBr.out W hW) Try.underlying55 rfl (by kernel_rfl) ?_; simp only [Act.put, List.setIfInBounds_toArray, List.set_cons_succ, List.set_cons_zero]; go_big_quiet_on) | (go_big_quiet_op; first | go_big_quiet_on | (apply Exists.intro; refine ⟨fun W hW => ?_, ?_⟩; (first | exact rfl | (go_at_call 29; with_reducible exact Calls.grew hW (HVg.out _ hW)) | (go_at_call 39; with_reducible exact Calls.grew hW (HLb.out _))); go_big_quiet_on))))
            refine wpQuiet_nil ?_
            intro w4 hw4
            have HD4 := Lib.hid (HD3.out.grew hw4)
            have HP4 := Lib.hid (BlkAt.grew HP3.out hw4)
            clear hex hw4 d0 HD3 HP3 HBr HVg HLb
            go_wp2_with (fail)
            refine (HVo.out g _ HP4.out).mono ?_
            rintro e w5 ⟨rfl, hb5⟩
            have HD5 := Lib.hid (HD4.out.grew hb5)
            have HP5 := Lib.hid (BlkAt.grew HP4.out hb5)
            clear hb5 HD4 HP4
            have HSt := Lib.hid (stores_of (P := Try.prog) (cs' := votCells ⟨ob, 1, 1⟩) HD5.out.best rfl infoVo (vot_one _))
            have HSu := Lib.hid (fun (W : World) (h1 : BlkAt w.heap.size VoT (votCells ⟨ob, 1, 1⟩) W) (h2 : w5.grownBy W (some w.heap.size)) => And.intro (HD5.out.setBest h1 h2) (BlkAt.grown HP5.out h2 (fun e => blk_ne HP5.out HD5.out.best (by decide) (Option.some.inj e))))
            unfold votCells at HSt
            simp only at HSt
            go_wp2_with (first | ((with_reducible refine HSt.out _ _ _ _ _ ?_ ?_ ?_); exact rfl; exact ⟨_, _, rfl, rfl, rfl⟩; intro w7 h7a g7a; have HD7 := Lib.hid (HSu.out w7 h7a g7a).1; have HP7 := Lib.hid (HSu.out w7 h7a g7a).2; clear h7a g7a HSt HSu HD5 HP5; have hrow := HD7.out.row; have hsz := HD7.out.bel.size; have hlr : ((List.range i).map G).length = i := (by simp); have HDa := Lib.hid (fun o => HD7.out.grew (alloc_below _ o)); have HPa := Lib.hid (fun o => BlkAt.grew HP7.out (alloc_below _ o)); have hszb : w.heap.size + 1 ≤ _ := (by have h9 := HD7.out.bN; have h8 := BlkAt.lt HD7.out.best; rw [h9] at h8; exact h8)) | (at_builtin; refine wpList_append_grow rfl _ _ _ rfl Try.underlying75 _ _ infoPt rfl (by decide) rfl hrow hszb g _ rfl rfl (ptr_one g) rfl (by rw [hlr]; unfold maxLen; omega) (by rw [hlr]; omega) ?_; intro v2 w6 hG6 hg6; have HD6 := Lib.hid ((HDa.out _).append HF.out hgw (HPa.out _) hG6 hg6); clear hG6 hg6))
            go_roundw
            case rel => exact ⟨i + 1, _, _, by go_num, by omega, HBo2.out, HD6.out⟩
            case measure => simp [intOf]; omega
        · as_aux_lemma =>
          have hne : i ≠ 0 := fun e => hi0 (.inl e)
          have hbf : betterB ob bv.b = false := by
            cases hq : betterB ob bv.b with
            | false => rfl
            | true => exact absurd (.inr ⟨hne, hq⟩) hi0
          have HBo2 : Hid (BestOf L (i + 1) bv) := Lib.hid (HBo.out.stay Hon.out hne (by rw [← Hob.out]; exact hbf))
          have d0 : ((i : Int) == 0) = false := by rw [beq_eq_false_iff_ne]; omega
          rw [hbf] at HLb
          have HVg := Lib.hid (fun W (hW : Grew w3 W) => HVo.out g W (BlkAt.grew HP3.out hW))
          have HBr := Lib.hid (fun (W : World) (hW : Below w3.heap.size w3 W) => BlkAt.range (BlkAt.grew HD3.out.best hW) 0 (votCells bv) (fun j hj => by rw [Nat.zero_add]))
          unfold votCells at HBr
          clear hi0 hbf hne
          go_wp2_with (fail)
          have hex := Grew.all w3
          refine wp_region_grew (by kernel_rfl) (by kernel_rfl) ?_
          repeat (first | go_big_quiet_skip | (go_big_quiet_want; first | (refine quiet_load_mid VoT _ rfl w.heap.size 0 rfl [.int .i64 bv.b.l, .int .i64 bv.b.e, .int .i64 bv.b.c, .int .i64 bv.b.p, .int .i64 bv.round, .int .i64 bv.state] _ (fun W hW => HBr.out W hW) Try.underlying55 rfl (by kernel_rfl) ?_; simp only [Act.put, List.setIfInBounds_toArray, List.set_cons_succ, List.set_cons_zero]; go_big_quiet_on) | (go_big_quiet_op; first | go_big_quiet_on | (apply Exists.intro; refine ⟨fun W hW => ?_, ?_⟩; (first | exact rfl | (go_at_call 29; with_reducible exact Calls.grew hW (HVg.out _ hW)) | (go_at_call 39; with_reducible exact Calls.grew hW (HLb.out _))); go_big_quiet_on))))
          refine wpQuiet_nil ?_
          intro w4 hw4
          have HD4 := Lib.hid (HD3.out.grew hw4)
          have HP4 := Lib.hid (BlkAt.grew HP3.out hw4)
          clear hex hw4 d0 HD3 HP3 HBr HVg HLb
          have hrow := HD4.out.row; have hsz := HD4.out.bel.size; have hlr : ((List.range i).map G).length = i := (by simp); have HDa := Lib.hid (fun o => HD4.out.grew (alloc_below _ o)); have HPa := Lib.hid (fun o => BlkAt.grew HP4.out (alloc_below _ o)); have hszb : w.heap.size + 1 ≤ _ := (by have h9 := HD4.out.bN; have h8 := BlkAt.lt HD4.out.best; rw [h9] at h8; exact h8)
          go_wp2_with (at_builtin; refine wpList_append_grow rfl _ _ _ rfl Try.underlying75 _ _ infoPt rfl (by decide) rfl hrow hszb g _ rfl rfl (ptr_one g) rfl (by rw [hlr]; unfold maxLen; omega) (by rw [hlr]; omega) ?_; intro v2 w6 hG6 hg6; have HD6 := Lib.hid ((HDa.out _).append HF.out hgw (HPa.out _) hG6 hg6); clear hG6 hg6)
          go_roundw
          case rel => exact ⟨i + 1, _, _, by go_num, by omega, HBo2.out, HD6.out⟩
          case measure => simp [intOf]; omega
    · obtain rfl : i = L.length := by omega
      obtain ⟨rb, cc, cur, hv5, hSt⟩ := HS.out.done h1
      have HSt := Lib.hid hSt
      clear hSt
      subst hv5
      have hbest := HBo.out.2 h1
      have Hown := Lib.hid HBo.out.1
      obtain ⟨bb0, hbv, hbj, hball⟩ := hbest
      subst hbv
      have HBj := Lib.hid hbj
      have HBall := Lib.hid hball
      have Hok0 := Lib.hid (ok0 L L.length h1 h7)
      clear hbj hball HBo HS HB0 hi h
      have HW0 : Hid (Sw w L.length G (poll0 L L.length) w.heap.size ⟨bb0, 1, 1⟩ rb cur wr.heap.size noWay (wr.alloc (.cells (wayV noWay).toArray WyT))) := Lib.hid ⟨HSt.out.grew (alloc_below _ _), BlkAt.alloc_new wr (wayV noWay) WyT, HSt.out.bel.size⟩
      generalize hwb : wr.heap.size = wb at *
      go_wp2_with (fail)
      clear hwb HSt
      go_loopw [11] (fun v11 w2 => ∃ (i : Nat), v11 = .int .i64 (i : Int) ∧ i ≤ L.length ∧ Sw w L.length G (poll0 L L.length) w.heap.size ⟨bb0, 1, 1⟩ rb cur wb (wayK L.length i 0) w2) (fun v11 _ => L.length - (intOf v11).toNat)
      case atStart => exact ⟨0, rfl, by omega, by rw [wayK_zero]; exact HW0.out⟩
      case round =>
        obtain ⟨i, rfl, hi, hS⟩ := hrel
        have HS := Lib.hid hS
        clear hS
        by_cases h : i < L.length
        · as_aux_lemma =>
          go_wp2_with (fail)
          obtain ⟨wo, hwo⟩ : ∃ wo : World, wo = wr := ⟨_, rfl⟩
          subst hwo
          go_loopw [12] (fun v12 w3 => ∃ (k : Nat), v12 = .int .i64 (k : Int) ∧ k ≤ L.length ∧ Sw w L.length G (poll0 L L.length) w.heap.size ⟨bb0, 1, 1⟩ rb cur wb (wayK L.length i k) w3) (fun v12 _ => L.length - (intOf v12).toNat)
          case atStart => exact ⟨0, rfl, by omega, HS.out⟩
          case round =>
            obtain ⟨k, rfl, hk, hS3⟩ := hrel
            by_cases hkn : k < L.length
            · as_aux_lemma =>
              have hi7 : i < 7 := by omega
              have hk7 : k < 7 := by omega
              have y0 := hS3.way.cell (wayV_get (wayK L.length i k) i k hi7 hk7)
              have fw := hS3.way.frozen
              have hwl := hS3.way.lt
              have hN := hS3.setWay hi7 hk7 (decide (i ≠ k))
              rw [wayK_step] at hN
              have HN := Lib.hid hN
              clear hN hS3
              by_cases hik : i = k
              · have q0 : ((i : Int) != (k : Int)) = false := by rw [hik]; simp
                have q1 : (i != k) = false := by rw [hik]; simp
                rw [decide_eq_false (by simpa using hik)] at HN
                clear hik
                go_wp2
                go_roundw
                case rel => exact ⟨k + 1, by go_num, by omega, HN.out⟩
                case measure => simp [intOf]; omega
              · have q0 : ((i : Int) != (k : Int)) = true := by simp; omega
                have q1 : (i != k) = true := by simpa using hik
                rw [decide_eq_true hik] at HN
                clear hik
                go_wp2
                go_roundw
                case rel => exact ⟨k + 1, by go_num, by omega, HN.out⟩
                case measure => simp [intOf]; omega
            · obtain rfl : k = L.length := by omega
              rw [wayK_row] at hS3
              have HS3 := Lib.hid hS3
              clear hS3
              as_aux_lemma =>
              go_wp2
              go_roundw
              case rel => exact ⟨i + 1, by go_num, by omega, HS3.out⟩
              case measure => simp [intOf]; omega
        · obtain rfl : i = L.length := by omega
          have HS4 : Hid (∃ wy, Ok L.length (ownB L) (poll0 L L.length) wy ∧ Sw w L.length G (poll0 L L.length) w.heap.size ⟨bb0, 1, 1⟩ rb cur wb wy wr) := Lib.hid ⟨_, Hok0.out.ways (fun i k hi hk => by unfold wayK way0; rw [if_pos hi, decide_eq_true hk, Bool.and_true]), HS.out⟩
          clear HS Hok0 h hi
          obtain ⟨wy0, Hok0, hS4⟩ := HS4.out
          have Hok0 := Lib.hid Hok0
          have hS4 := Lib.hid hS4
          clear HS4
          go_wp2_with (fail)
          go_loopw [13] (fun v13 w4 => ∃ (s : Nat) (P : Nat → Poll) (wy : Nat → Nat → Bool), v13 = .int .i64 (s : Int) ∧ Ok L.length (ownB L) P wy ∧ s + pot L.length (ownB L) P wy ≤ 500 ∧ Sw w L.length G P w.heap.size ⟨bb0, 1, 1⟩ rb cur wb wy w4) (fun v13 _ => 10000 - (intOf v13).toNat)
          case atStart => exact ⟨0, _, _, rfl, Hok0.out, by have := pot_le L.length h7 (ownB L) (poll0 L L.length) wy0; omega, hS4.out⟩
          case round =>
            obtain ⟨s, P, wy, rfl, hok, hpot, hS5⟩ := hrel
            have Hok := Lib.hid hok
            have HS5 := Lib.hid hS5
            have hs1 : s < 10000 := by omega
            clear hok hS5 Hok0 hS4
            have hB5 := HS5.out.bel.size
            have ds : decide ((s : Int) < 10000) = true := decide_eq_true (by omega)
            go_wp2_with (fail)
            clear ds
            obtain ⟨wo, hwo⟩ : ∃ wo : World, wo = wr := ⟨_, rfl⟩
            subst hwo
            obtain ⟨B, hB⟩ : ∃ B, B = wo.heap.size := ⟨_, rfl⟩
            have hBw : w.heap.size ≤ B := by omega
            have hBo : B ≤ wo.heap.size := by omega
            clear hB
            go_loopw [14, 15] (fun v14 v15 w5 => ∃ (i : Nat), v15 = .int .i64 (i : Int) ∧ i ≤ L.length ∧ Grow TdT 2 pairCells B v14 (todoK wy L.length i 0) w5 ∧ Sw w L.length G P w.heap.size ⟨bb0, 1, 1⟩ rb cur wb wy w5 ∧ B ≤ w5.heap.size) (fun _ v15 _ => L.length - (intOf v15).toNat)
            case atStart => exact ⟨0, rfl, by omega, Grow.nil _, HS5.out, hBo⟩
            case round =>
              obtain ⟨i, rfl, hi, hG5, hS6, hB6⟩ := hrel
              have HG5 := Lib.hid hG5
              have HS6 := Lib.hid hS6
              clear hG5 hS6
              by_cases h : i < L.length
              · as_aux_lemma =>
                go_wp2_with (fail)
                obtain ⟨wo2, hwo2⟩ : ∃ wo2 : World, wo2 = wr := ⟨_, rfl⟩
                subst hwo2
                go_loopw [14, 16] (fun v14 v16 w6 => ∃ (k : Nat), v16 = .int .i64 (k : Int) ∧ k ≤ L.length ∧ Grow TdT 2 pairCells B v14 (todoK wy L.length i k) w6 ∧ Sw w L.length G P w.heap.size ⟨bb0, 1, 1⟩ rb cur wb wy w6 ∧ B ≤ w6.heap.size) (fun _ v16 _ => L.length - (intOf v16).toNat)
                case atStart => exact ⟨0, rfl, by omega, HG5.out, HS6.out, hB6⟩
                case round =>
                  obtain ⟨k, rfl, hk, hG7, hS7, hB7⟩ := hrel
                  by_cases hkn : k < L.length
                  · have hi7 : i < 7 := by omega
                    have hk7 : k < 7 := by omega
                    have y0 := hS7.way.cell (wayV_get wy i k hi7 hk7)
                    have HS7 := Lib.hid hS7
                    clear hS7
                    cases hw : wy i k with
                    | false =>
                      as_aux_lemma =>
                      rw [hw] at y0
                      have hG8 := hG7
                      rw [← todoK_no wy L.length i k hw] at hG8
                      have HG8 := Lib.hid hG8
                      clear hG7 hG8 hw
                      go_wp2
                      go_roundw
                      case rel => exact ⟨k + 1, by go_num, by omega, HG8.out, HS7.out, hB7⟩
                      case measure => simp [intOf]; omega
                    | true =>
                      as_aux_lemma =>
                      rw [hw] at y0
                      have hll := todoK_len wy L.length i k h7 (by omega) (by omega)
                      have HTy := Lib.hid (todoK_yes wy L.length i k hw)
                      have HSa := Lib.hid (fun o => HS7.out.grew (alloc_below _ o))
                      have HGa := Lib.hid (fun o => hG7.below (alloc_below _ o))
                      clear hw
                      go_wp2_with (at_builtin; refine wpList_append_grow rfl _ _ _ rfl Try.underlying78 _ _ infoTd rfl (by decide) rfl hG7 hB7 (i, k) _ rfl rfl (pair_one _) rfl (by unfold maxLen; omega) (by omega) ?_; intro v2 w7 hG8 hg8; have HS8 := Lib.hid ((HSa.out _).row_ (HGa.out _) hBw (by decide) (by decide) (by decide) (by decide) hg8); have hB8 : B ≤ w7.heap.size := (by have h9 := hg8.size; rw [World.size_alloc] at h9; omega); have HG8 := Lib.hid hG8; clear hG8 hg8)
                      go_roundw
                      case rel => exact ⟨k + 1, by go_num, by omega, by rw [HTy.out]; exact HG8.out, HS8.out, hB8⟩
                      case measure => simp [intOf]; omega
                  · obtain rfl : k = L.length := by omega
                    rw [todoK_row] at hG7
                    have HS7 := Lib.hid hS7
                    have HG7 := Lib.hid hG7
                    clear hS7 hG7
                    as_aux_lemma =>
                    go_wp2
                    go_roundw
                    case rel => exact ⟨i + 1, by go_num, by omega, HG7.out, HS7.out, hB7⟩
                    case measure => simp [intOf]; omega
              · obtain rfl : i = L.length := by omega
                obtain ⟨T, hT⟩ : ∃ T, T = todoK wy L.length L.length 0 := ⟨_, rfl⟩
                rw [← hT] at HG5
                have HT := Lib.hid hT
                have hTl : T.length ≤ 56 := by rw [hT]; exact todoK_len wy L.length L.length 0 h7 h7 (by omega)
                clear hT h hi HS5
                by_cases hT0 : T.length = 0
                · have HZ : Hid (∀ x y, x < L.length → y < L.length → wy x y = false) := Lib.hid (fun x y hx hy => todoK_nil (by rw [← HT.out]; exact List.eq_nil_of_length_eq_zero hT0) x y hx hy)
                  have q0 : ((T.length : Int) == 0) = true := by rw [beq_iff_eq]; omega
                  have q1 : T.isEmpty = true := by rw [List.isEmpty_iff]; exact List.eq_nil_of_length_eq_zero hT0
                  obtain ⟨ta, tc, rfl⟩ := HG5.out.slice
                  clear HG5 HT hT0
                  have HE := Lib.hid (ok_end Hok.out HZ.out HBj.out HBall.out)
                  have HV := Lib.hid (ok_votes Hok.out HZ.out HBj.out HBall.out)
                  go_wp2_with (fail)
                  clear q0 q1 hpot hs1 hTl
                  obtain ⟨wo4, hwo4⟩ : ∃ wo4 : World, wo4 = wr := ⟨_, rfl⟩
                  subst hwo4
                  go_loopw [21] (fun v21 w8 => ∃ (i : Nat), v21 = .int .i64 (i : Int) ∧ i ≤ L.length ∧ Sw w L.length G P w.heap.size ⟨bb0, 1, 1⟩ rb cur wb wy w8) (fun v21 _ => L.length - (intOf v21).toNat)
                  case atStart => exact ⟨0, rfl, by omega, HS6.out⟩
                  case round =>
                    obtain ⟨i, rfl, hi, hS8⟩ := hrel
                    by_cases h : i < L.length
                    · as_aux_lemma =>
                      have pi := Hok.out.pi i h
                      have HWn := Lib.hid (fun W hW => won_any (G i) (P i) pi.fit pi.noOne W hW)
                      rw [HV.out i h] at HWn
                      have HVo := Lib.hid (fun W hW => voteM_any (G i) (P i) W hW)
                      have hvo : voteOf (P i) = ⟨bb0, 1, 1⟩ := by unfold voteOf; rw [HE.out i h, pi.round]
                      rw [hvo] at HVo
                      have hcmp : ∀ W, (binOp .neq 55 (votV ⟨bb0, 1, 1⟩) (votV ⟨bb0, 1, 1⟩)).run Try.prog W = .ok (.bool false) W := fun W => run_neq_vot ⟨bb0, 1, 1⟩ W
                      unfold ptrV at HWn HVo
                      unfold votV at HVo hcmp
                      simp only at HWn HVo hcmp
                      have r1 := hS8.row.cell (hS8.rowc i h)
                      have HS8 := Lib.hid hS8
                      unfold ptrV at r1
                      clear pi hvo hS8
                      go_wp2_with (fail)
                      refine (HWn.out _ (HS8.out.polls i h)).mono ?_
                      rintro e w9 ⟨rfl, b9⟩
                      have hS9 := HS8.out.grew b9
                      have r1 := hS9.row.cell (hS9.rowc i h)
                      have s0 := hS9.best.cell (i := 0) rfl
                      unfold ptrV at r1
                      have HS9 := Lib.hid hS9
                      have HBr := Lib.hid (fun (W : World) (hW : Below w9.heap.size w9 W) => BlkAt.range (BlkAt.grew HS9.out.best hW) 0 (votCells ⟨bb0, 1, 1⟩) (fun j hj => by rw [Nat.zero_add]))
                      have HVg := Lib.hid (fun W (hW : Grew w9 W) => HVo.out W (BlkAt.grew (HS9.out.polls i h) hW))
                      unfold votCells at HBr
                      clear hS9 b9 HS8 HWn HVo
                      go_wp2_with (fail)
                      have hex := Grew.all w9
                      refine wp_region_grew (by kernel_rfl) (by kernel_rfl) ?_
                      repeat (first | go_big_quiet_skip | (go_big_quiet_want; first | (refine quiet_load_cell 3 _ rfl ⟨w.heap.size, 0, none⟩ rfl _ _ Try.underlying3 rfl (fun W hW => Grew.cell hW s0) ?_; simp only [Act.put, List.setIfInBounds_toArray, List.set_cons_succ, List.set_cons_zero]; go_big_quiet_on) | (refine quiet_load_cell 50 _ rfl ⟨rb, i, none⟩ rfl _ _ Try.underlying50 rfl (fun W hW => Grew.cell hW r1) ?_; simp only [Act.put, List.setIfInBounds_toArray, List.set_cons_succ, List.set_cons_zero]; go_big_quiet_on) | (refine quiet_load_mid VoT _ rfl w.heap.size 0 rfl [.int .i64 bb0.l, .int .i64 bb0.e, .int .i64 bb0.c, .int .i64 bb0.p, .int .i64 1, .int .i64 1] _ (fun W hW => HBr.out W hW) Try.underlying55 rfl (by kernel_rfl) ?_; simp only [Act.put, List.setIfInBounds_toArray, List.set_cons_succ, List.set_cons_zero]; go_big_quiet_on) | (go_big_quiet_op; first | go_big_quiet_on | (apply Exists.intro; refine ⟨fun W hW => ?_, ?_⟩; (first | exact rfl | (go_at_call 29; with_reducible exact Calls.grew hW (HVg.out _ hW))); go_big_quiet_on))))
                      refine wpQuiet_nil ?_
                      intro w10 hw10
                      have HS10 := Lib.hid (HS9.out.grew hw10)
                      clear hex hw10 r1 s0 hcmp HBr HVg HS9
                      go_wp2
                      go_roundw
                      case rel => exact ⟨i + 1, by go_num, by omega, HS10.out⟩
                      case measure => simp [intOf]; omega
                    · as_aux_lemma =>
                      have HS8 := Lib.hid hS8.bel
                      clear hS8
                      go_wp2_with (fail)
                      refine (vawake_any _).mono ?_
                      rintro e w9 ⟨rfl, hb9⟩
                      go_wp2
                      go_ret
                      exact ⟨rfl, HS8.out.trans (hb9.mono HS8.out.size)⟩
                · have q0 : ((T.length : Int) == 0) = false := by rw [beq_eq_false_iff_ne]; omega
                  obtain ⟨tb, tc, rfl, htb⟩ := HG5.out.form (by omega)
                  have hmm : ∀ m (h : m < T.length), ∃ f t, T[m] = (f, t) ∧ f < L.length ∧ t < L.length ∧ wy f t = true := fun m h => by
                    have h1 : T[m] ∈ todoK wy L.length L.length 0 := by rw [← HT.out]; exact List.getElem_mem h
                    have h2 := todoK_mem h1
                    exact ⟨T[m].1, T[m].2, rfl, h2.1, h2.2.1, h2.2.2⟩
                  have Hmm := Lib.hid hmm
                  have hTc := Lib.hid (fun m h => HG5.out.cells (fun _ => rfl) rfl m h)
                  have hjx : ∃ j : Nat, (s : Int) % (K.length : Int) = (j : Int) ∧ j < K.length := ⟨s % K.length, by simp, Nat.mod_lt _ (by omega)⟩
                  obtain ⟨j, hj, hjK⟩ := hjx
                  obtain ⟨kb, ko, hc, hkr⟩ := (HK.out wr HS6.out.bel).get j hjK
                  have kc : wr.cell? ⟨kb, ko + j, none⟩ = some (.int .i64 K[j]) := by have := hkr 0 _ rfl; simpa using this
                  subst hc
                  clear hkr hmm HG5
                  generalize K[j] = kv at *
                  have hz1 : kv.tmod (T.length : Int) < T.length := Int.tmod_lt_of_pos _ (by omega)
                  have hz2 : -(T.length : Int) < kv.tmod (T.length : Int) := by
                    have h1 := Int.tmod_lt_of_pos (-kv) (show (0 : Int) < T.length by omega)
                    rw [Int.neg_tmod] at h1
                    omega
                  generalize hzz : kv.tmod (T.length : Int) = z at *
                  have HS7 := HS6
                  by_cases hz0 : z < 0
                  · obtain ⟨m, hm2⟩ : ∃ m : Nat, z + (T.length : Int) = (m : Int) := ⟨(z + T.length).toNat, by omega⟩
                    have hmT : m < T.length := by omega
                    obtain ⟨f, t, hft, hf, ht, hw⟩ := Hmm.out m hmT
                    have tm := hTc.out m hmT
                    rw [hft] at tm
                    have t0 : wr.cell? ⟨tb, m * 2, none⟩ = some (.int .i64 (f : Int)) := tm 0 _ rfl
                    have t1 : wr.cell? ⟨tb, m * 2 + 1, none⟩ = some (.int .i64 (t : Int)) := tm 1 _ rfl
                    clear tm hTc Hmm hft
                    have hf7 : f < 7 := by omega
                    have ht7 : t < 7 := by omega
                    have w0 := HS7.out.way.cell (wayV_get wy f t hf7 ht7)
                    have fw := HS7.out.way.frozen
                    have hwl := HS7.out.way.lt
                    have HS8 := Lib.hid (HS7.out.setWay hf7 ht7 false)
                    go_upto_region 42 with (fail)
                    have HP1 := Lib.hid (HS8.out.polls f hf)
                    have HP2 := Lib.hid (HS8.out.polls t ht)
                    have r1 := HS8.out.row.cell (HS8.out.rowc f hf)
                    have r2 := HS8.out.row.cell (HS8.out.rowc t ht)
                    clear w0 fw hwl t0 t1 kc
                    generalize wr.setCell ⟨wb, f * 7 + t, none⟩ (.bool false) = x at *
                    unfold ptrV at r1 r2
                    have hown : ∀ j, j < L.length → (ownB L j).l = (j : Int) ∧ 0 ≤ (ownB L j).e ∧ 0 ≤ (ownB L j).c ∧ 0 ≤ (ownB L j).p := fun j hj => ⟨by rw [ownB_at L j hj], Hown.out j hj⟩
                    have HKd := Lib.hid (step_kind Hok.out hown hf ht hw)
                    have HVo := Lib.hid (fun W hW => voteM_any (G f) (P f) W hW)
                    have HTk := Lib.hid (fun W hW => take_any (G t) (P t) (Hok.out.pi t ht).fit (f : Int) (voteOf (P f)) W hW)
                    unfold ptrV at HVo HTk
                    obtain ⟨st, hst⟩ : ∃ st, st = stepP (P t) (f : Int) (voteOf (P f)) := ⟨_, rfl⟩
                    rw [← hst] at HKd HTk
                    clear hown hst
                    generalize voteOf (P f) = vf at HVo HTk
                    unfold votV at HVo HTk
                    have hfT : (f : Int) < L.length := by omega
                    have htT : (t : Int) < L.length := by omega
                    have hD := HS8.out.drew
                    go_region_held3 (fun w' => w'.cell? ⟨rb, f, none⟩ = some (.pointer (some ⟨G f, 0, none⟩)) ∧ w'.cell? ⟨rb, t, none⟩ = some (.pointer (some ⟨G t, 0, none⟩)))
                      (exact ⟨hD.row.cell (hD.rowc f hf), hD.row.cell (hD.rowc t ht)⟩)
                      (first | (go_at_call 29; (with_reducible refine (HVo.out _ (hD.polls f hf)).mono ?_); rintro e wV ⟨rfl, bV⟩; have hD := hD.grew bV) | (go_at_call 28; (with_reducible refine (HTk.out _ (hD.polls t ht)).mono ?_); rintro e wT ⟨rfl, hPT, hGT⟩; have hD := hD.take ht hPT hGT))
                    rename_i hHeld
                    have HD := Lib.hid hD
                    clear hPT hGT bV HVo HTk HS8 HP1 HP2 r1 r2
                    have HKd2 := HKd.out
                    have Hok2 := Hok
                    clear HKd
                    rcases HKd2 with ⟨hb, hk⟩ | ⟨hb, hk⟩
                    · have k1 : st.2 = 2 := by rw [hk]
                      have k0 : st.1 = yesP (P t) f (P f).now := by rw [hk]
                      rw [k0] at HD
                      have HYes := Lib.hid (step_yes Hok.out hf ht hw hb)
                      clear hk hb k0
                      rw [k1]
                      clear k1
                      go_wp2_with (fail)
                      obtain ⟨wo3, hwo3⟩ : ∃ wo3 : World, wo3 = wT := ⟨_, rfl⟩
                      subst hwo3
                      clear hD hHeld
                      go_loopw [20] (fun v20 w7 => ∃ (k : Nat), v20 = .int .i64 (k : Int) ∧ k ≤ L.length ∧ Sw w L.length G (upd P t (yesP (P t) f (P f).now)) w.heap.size ⟨bb0, 1, 1⟩ rb cur wb (wayR (way1 wy f t false) t k) w7) (fun v20 _ => L.length - (intOf v20).toNat)
                      case atStart => exact ⟨0, rfl, by omega, by rw [wayR_zero]; exact HD.out⟩
                      case round =>
                        obtain ⟨k, rfl, hk, hS3⟩ := hrel
                        by_cases hkn : k < L.length
                        · as_aux_lemma =>
                          have hk7 : k < 7 := by omega
                          have y0 := hS3.way.cell (wayV_get (wayR (way1 wy f t false) t k) t k ht7 hk7)
                          have fw := hS3.way.frozen
                          have hwl := hS3.way.lt
                          have hN := hS3.setWay ht7 hk7 (decide (k ≠ t))
                          rw [wayR_step] at hN
                          have HN := Lib.hid hN
                          clear hN hS3
                          by_cases hik : k = t
                          · have q0 : ((k : Int) != (t : Int)) = false := by rw [hik]; simp
                            have q1 : (k != t) = false := by rw [hik]; simp
                            rw [decide_eq_false (by simpa using hik)] at HN
                            clear hik
                            go_wp2
                            go_roundw
                            case rel => exact ⟨k + 1, by go_num, by omega, HN.out⟩
                            case measure => simp [intOf]; omega
                          · have q0 : ((k : Int) != (t : Int)) = true := by simp; omega
                            have q1 : (k != t) = true := by simpa using hik
                            rw [decide_eq_true hik] at HN
                            clear hik
                            go_wp2
                            go_roundw
                            case rel => exact ⟨k + 1, by go_num, by omega, HN.out⟩
                            case measure => simp [intOf]; omega
                        · obtain rfl : k = L.length := by omega
                          have HS3 := Lib.hid hS3
                          have hsame : ∀ i k, i < L.length → k < L.length → wayR (way1 wy f t false) t L.length i k = wayAll (way1 wy f t false) t i k := fun i k hi hk => by
                            unfold wayR wayAll
                            by_cases e : i = t
                            · rw [if_pos ⟨e, hk⟩, if_pos e]
                            · rw [if_neg (fun q => e q.1), if_neg e]
                          have HE : Hid (Ok L.length (ownB L) (upd P t (yesP (P t) f (P f).now)) (wayR (way1 wy f t false) t L.length) ∧ pot L.length (ownB L) (upd P t (yesP (P t) f (P f).now)) (wayR (way1 wy f t false) t L.length) + 1 ≤ pot L.length (ownB L) P wy) := Lib.hid ⟨HYes.out.1.ways hsame, by rw [pot_ways hsame]; exact HYes.out.2⟩
                          clear hS3 hsame HYes
                          as_aux_lemma =>
                          go_wp2
                          go_roundw
                          case rel => exact ⟨s + 1, _, _, by go_num, HE.out.1, by have := HE.out.2; omega, HS3.out⟩
                          case measure => simp [intOf]; omega
                    · have k1 : st.2 = 0 := by rw [hk]
                      have k0 : st.1 = noP (P t) f (P f).now := by rw [hk]
                      rw [k0] at HD
                      have HNo := Lib.hid (step_no Hok.out hf ht hw hb)
                      clear hk hb k0
                      rw [k1]
                      clear k1
                      go_wp2
                      go_roundw
                      case rel => exact ⟨s + 1, _, _, by go_num, HNo.out.1, by have := HNo.out.2; omega, HD.out⟩
                      case measure => simp [intOf]; omega
                  · obtain ⟨m, rfl⟩ : ∃ m : Nat, z = (m : Int) := ⟨z.toNat, by omega⟩
                    have hmT : m < T.length := by omega
                    obtain ⟨f, t, hft, hf, ht, hw⟩ := Hmm.out m hmT
                    have tm := hTc.out m hmT
                    rw [hft] at tm
                    have t0 : wr.cell? ⟨tb, m * 2, none⟩ = some (.int .i64 (f : Int)) := tm 0 _ rfl
                    have t1 : wr.cell? ⟨tb, m * 2 + 1, none⟩ = some (.int .i64 (t : Int)) := tm 1 _ rfl
                    clear tm hTc Hmm hft
                    have hf7 : f < 7 := by omega
                    have ht7 : t < 7 := by omega
                    have w0 := HS7.out.way.cell (wayV_get wy f t hf7 ht7)
                    have fw := HS7.out.way.frozen
                    have hwl := HS7.out.way.lt
                    have HS8 := Lib.hid (HS7.out.setWay hf7 ht7 false)
                    go_upto_region 42 with (fail)
                    have HP1 := Lib.hid (HS8.out.polls f hf)
                    have HP2 := Lib.hid (HS8.out.polls t ht)
                    have r1 := HS8.out.row.cell (HS8.out.rowc f hf)
                    have r2 := HS8.out.row.cell (HS8.out.rowc t ht)
                    clear w0 fw hwl t0 t1 kc
                    generalize wr.setCell ⟨wb, f * 7 + t, none⟩ (.bool false) = x at *
                    unfold ptrV at r1 r2
                    have hown : ∀ j, j < L.length → (ownB L j).l = (j : Int) ∧ 0 ≤ (ownB L j).e ∧ 0 ≤ (ownB L j).c ∧ 0 ≤ (ownB L j).p := fun j hj => ⟨by rw [ownB_at L j hj], Hown.out j hj⟩
                    have HKd := Lib.hid (step_kind Hok.out hown hf ht hw)
                    have HVo := Lib.hid (fun W hW => voteM_any (G f) (P f) W hW)
                    have HTk := Lib.hid (fun W hW => take_any (G t) (P t) (Hok.out.pi t ht).fit (f : Int) (voteOf (P f)) W hW)
                    unfold ptrV at HVo HTk
                    obtain ⟨st, hst⟩ : ∃ st, st = stepP (P t) (f : Int) (voteOf (P f)) := ⟨_, rfl⟩
                    rw [← hst] at HKd HTk
                    clear hown hst
                    generalize voteOf (P f) = vf at HVo HTk
                    unfold votV at HVo HTk
                    have hfT : (f : Int) < L.length := by omega
                    have htT : (t : Int) < L.length := by omega
                    have hD := HS8.out.drew
                    go_region_held3 (fun w' => w'.cell? ⟨rb, f, none⟩ = some (.pointer (some ⟨G f, 0, none⟩)) ∧ w'.cell? ⟨rb, t, none⟩ = some (.pointer (some ⟨G t, 0, none⟩)))
                      (exact ⟨hD.row.cell (hD.rowc f hf), hD.row.cell (hD.rowc t ht)⟩)
                      (first | (go_at_call 29; (with_reducible refine (HVo.out _ (hD.polls f hf)).mono ?_); rintro e wV ⟨rfl, bV⟩; have hD := hD.grew bV) | (go_at_call 28; (with_reducible refine (HTk.out _ (hD.polls t ht)).mono ?_); rintro e wT ⟨rfl, hPT, hGT⟩; have hD := hD.take ht hPT hGT))
                    rename_i hHeld
                    have HD := Lib.hid hD
                    clear hPT hGT bV HVo HTk HS8 HP1 HP2 r1 r2
                    have HKd2 := HKd.out
                    have Hok2 := Hok
                    clear HKd
                    rcases HKd2 with ⟨hb, hk⟩ | ⟨hb, hk⟩
                    · have k1 : st.2 = 2 := by rw [hk]
                      have k0 : st.1 = yesP (P t) f (P f).now := by rw [hk]
                      rw [k0] at HD
                      have HYes := Lib.hid (step_yes Hok.out hf ht hw hb)
                      clear hk hb k0
                      rw [k1]
                      clear k1
                      go_wp2_with (fail)
                      obtain ⟨wo3, hwo3⟩ : ∃ wo3 : World, wo3 = wT := ⟨_, rfl⟩
                      subst hwo3
                      clear hD hHeld
                      go_loopw [20] (fun v20 w7 => ∃ (k : Nat), v20 = .int .i64 (k : Int) ∧ k ≤ L.length ∧ Sw w L.length G (upd P t (yesP (P t) f (P f).now)) w.heap.size ⟨bb0, 1, 1⟩ rb cur wb (wayR (way1 wy f t false) t k) w7) (fun v20 _ => L.length - (intOf v20).toNat)
                      case atStart => exact ⟨0, rfl, by omega, by rw [wayR_zero]; exact HD.out⟩
                      case round =>
                        obtain ⟨k, rfl, hk, hS3⟩ := hrel
                        by_cases hkn : k < L.length
                        · as_aux_lemma =>
                          have hk7 : k < 7 := by omega
                          have y0 := hS3.way.cell (wayV_get (wayR (way1 wy f t false) t k) t k ht7 hk7)
                          have fw := hS3.way.frozen
                          have hwl := hS3.way.lt
                          have hN := hS3.setWay ht7 hk7 (decide (k ≠ t))
                          rw [wayR_step] at hN
                          have HN := Lib.hid hN
                          clear hN hS3
                          by_cases hik : k = t
                          · have q0 : ((k : Int) != (t : Int)) = false := by rw [hik]; simp
                            have q1 : (k != t) = false := by rw [hik]; simp
                            rw [decide_eq_false (by simpa using hik)] at HN
                            clear hik
                            go_wp2
                            go_roundw
                            case rel => exact ⟨k + 1, by go_num, by omega, HN.out⟩
                            case measure => simp [intOf]; omega
                          · have q0 : ((k : Int) != (t : Int)) = true := by simp; omega
                            have q1 : (k != t) = true := by simpa using hik
                            rw [decide_eq_true hik] at HN
                            clear hik
                            go_wp2
                            go_roundw
                            case rel => exact ⟨k + 1, by go_num, by omega, HN.out⟩
                            case measure => simp [intOf]; omega
                        · obtain rfl : k = L.length := by omega
                          have HS3 := Lib.hid hS3
                          have hsame : ∀ i k, i < L.length → k < L.length → wayR (way1 wy f t false) t L.length i k = wayAll (way1 wy f t false) t i k := fun i k hi hk => by
                            unfold wayR wayAll
                            by_cases e : i = t
                            · rw [if_pos ⟨e, hk⟩, if_pos e]
                            · rw [if_neg (fun q => e q.1), if_neg e]
                          have HE : Hid (Ok L.length (ownB L) (upd P t (yesP (P t) f (P f).now)) (wayR (way1 wy f t false) t L.length) ∧ pot L.length (ownB L) (upd P t (yesP (P t) f (P f).now)) (wayR (way1 wy f t false) t L.length) + 1 ≤ pot L.length (ownB L) P wy) := Lib.hid ⟨HYes.out.1.ways hsame, by rw [pot_ways hsame]; exact HYes.out.2⟩
                          clear hS3 hsame HYes
                          as_aux_lemma =>
                          go_wp2
                          go_roundw
                          case rel => exact ⟨s + 1, _, _, by go_num, HE.out.1, by have := HE.out.2; omega, HS3.out⟩
                          case measure => simp [intOf]; omega
                    · have k1 : st.2 = 0 := by rw [hk]
                      have k0 : st.1 = noP (P t) f (P f).now := by rw [hk]
                      rw [k0] at HD
                      have HNo := Lib.hid (step_no Hok.out hf ht hw hb)
                      clear hk hb k0
                      rw [k1]
                      clear k1
                      go_wp2
                      go_roundw
                      case rel => exact ⟨s + 1, _, _, by go_num, HNo.out.1, by have := HNo.out.2; omega, HD.out⟩
                      case measure => simp [intOf]; omega
section
open Go.WideShapes Go.ChangeShapes
variable {H : Type} {enc : TypeId × Value → H} {w : World} {base : Nat} {spare : Nat → Bool} {held : Bool}
set_option maxRecDepth 100000 in
theorem who_cells {fuel : Nat} {cs : List Value} {x : DataW H × List MemPlace} (h : DataW.trod enc Try.prog w base spare held fuel 48 cs = some x) : ∃ y : WhoS, cs = whoCells y := by
  obtain ⟨xs, n, _, _, hl, hlen, hg⟩ := DataW.trod_struct Try.underlying48 h
  rw [cwho] at hl
  match cs, hl, xs, hlen with
  | [c0, c1, c2, c3, c4], _, [y0, y1, y2, y3], _ =>
    obtain ⟨a, e0, _, _⟩ := DataW.trod_int Try.underlying3 (by simpa using hg 0 _ rfl)
    obtain ⟨b, e1, _, _⟩ := DataW.trod_int Try.underlying3 (by simpa using hg 1 _ rfl)
    obtain ⟨c, c', e2⟩ := zx_cells (x := y2) (by simpa using hg 2 _ rfl)
    obtain ⟨e, e3, _, _⟩ := DataW.trod_int Try.underlying3 (by simpa using hg 3 _ rfl)
    rw [ci] at e0 e1 e3
    rw [cz] at e2
    simp at e0 e1 e2 e3
    obtain ⟨rfl, rfl⟩ := e2
    subst e0 e1 e3
    exact ⟨⟨a, b, (c, c'), e⟩, rfl⟩
set_option maxRecDepth 100000 in
theorem int_cells {fuel : Nat} {cs : List Value} {x : DataW H × List MemPlace} (h : DataW.trod enc Try.prog w base spare held fuel 3 cs = some x) : ∃ y : Int, cs = intCells y := by
  obtain ⟨a, e0, _, _⟩ := DataW.trod_int Try.underlying3 h
  exact ⟨a, e0⟩
end
def IsWhos (w : World) (v : Value) : Prop := IsRows 5 whoCells (fun _ _ => True) w v
def IsInts (w : World) (v : Value) : Prop := IsRows 1 intCells (fun _ _ => True) w v
set_option maxRecDepth 100000 in
open Go.WideShapes Go.ChangeShapes in
theorem open_whos {H : Type} {enc : TypeId × Value → H} {w : World} {r : Reach} {base : Nat} {v : Value} {d : DataW H} {p : List MemPlace}
    (hv : Value.okWide Try.prog w r base 73 v) (h : DataW.Trod enc Try.prog w 0 (fun _ => true) true 73 v d p) : IsWhos w v :=
  open_rows Try.underlying73 cwho (by decide) (fun _ _ _ h => by obtain ⟨y, hy⟩ := who_cells h; exact ⟨y, hy, trivial⟩) (fun _ => rfl) hv h
set_option maxRecDepth 100000 in
open Go.WideShapes Go.ChangeShapes in
theorem open_ints1 {H : Type} {enc : TypeId × Value → H} {w : World} {r : Reach} {base : Nat} {v : Value} {d : DataW H} {p : List MemPlace}
    (hv : Value.okWide Try.prog w r base 74 v) (h : DataW.Trod enc Try.prog w 0 (fun _ => true) true 74 v d p) : IsInts w v :=
  open_rows Try.underlying74 ci (by decide) (fun _ _ _ h => by obtain ⟨y, hy⟩ := int_cells h; exact ⟨y, hy, trivial⟩) (fun _ => rfl) hv h
/-- THE LAW. -/
theorem voteAgrees_walk (W : World) (v0 v1 : Value) (h0 : IsWhos W v0) (h1 : IsInts W v1) :
    Calls Try.prog 9 #[v0, v1] W fun e w' => e = .returned (.bool true) ∧ Below W.heap.size W w' := by
  obtain ⟨L, a, cap, rfl, l1, l2, hL, _⟩ := h0
  obtain ⟨K, c, cap2, rfl, k1, k2, hK, _⟩ := h1
  exact agrees_any L a cap K c cap2 W hL hK (Nat.le_trans l1 l2) (Nat.le_trans k1 k2)
end Go.Proofs.Ytaahbfcnccmcoaa
