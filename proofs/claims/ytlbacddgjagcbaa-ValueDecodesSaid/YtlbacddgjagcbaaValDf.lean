/- The walks of the program's message and Decode. Conditions: as each theorem says. -/
import Derived.Test.YtlbacddgjagcbaaValDe
import Derived.Test.YtlbacddgjagcbaaValDp
namespace Go.Proofs.Ytlbacddgjagcbaa
open Go.RowKit

/-- Is it a message? -/
def isMv : Mv → Bool | .none => false | _ => true
def lenMv : Mv → Prop | .sync _ _ _ _ b _ => b.length ≤ maxLen | _ => True
theorem right_all (x : Mv) (u : Value) (w : World) (h : MvAt w x u) (hb : lenMv x) : Calls Try.prog 53 #[u] w fun e w' => RightSaid (rightMv x) (isMv x) w e w' := by
  cases x with
  | vote l z p r s => obtain rfl : u = _ := h; exact right_vote l z p r s w
  | info k p o z => obtain rfl : u = _ := h; exact right_info k p o z w
  | sync k p f z b L => obtain ⟨a, cap, rfl, hE⟩ := h; exact right_sync k p f z b L a cap w hE hb
  | prop x => obtain rfl : u = _ := h; exact right_propose x w
  | ack f z => obtain rfl : u = _ := h; exact right_ack f z w
  | ask n c q f b => obtain rfl : u = _ := h; exact right_ask n c q f b w
  | none => obtain rfl : u = _ := h; exact right_nil w
def MesSaid (v q : Nat) (x : Mv × Bool × Rd) (w : World) (e : Ending) (w' : World) : Prop := ∃ u, e = .returned u ∧ MvAt w' x.1 u ∧ Rds VRd PackRd v q x.2.1 x.2.2 w' ∧ Gr2 q v w w'
theorem mes_of {v q : Nat} {x : Mv × Bool × Rd} {m : Mv} {b : Bool} {r : Rd} {w : World} {e : Ending} {w' : World} {u : Value} (hx : x = (m, b, r)) (he : e = .returned u) (hm : MvAt w' m u) (hs : Rds VRd PackRd v q b r w') (hg : Gr2 q v w w') : MesSaid v q x w e w' := by subst hx; exact ⟨u, he, hm, hs, hg⟩
theorem msg_no (k : Int) (r : Rd) (h : isKind k = false) : msgR k r = (.none, false, r) := by
  unfold isKind at h
  unfold msgR
  rw [if_neg, if_neg, if_neg, if_neg, if_neg, if_neg] <;> intro e <;> subst e <;> simp at h
theorem kinds (k : Int) (h : isKind k = true) : k = 1 ∨ k = 2 ∨ k = 3 ∨ k = 4 ∨ k = 5 ∨ k = 6 := by
  unfold isKind at h
  simp only [Bool.and_eq_true, decide_eq_true_eq] at h
  omega
set_option maxRecDepth 100000 in
set_option maxHeartbeats 4000000 in
theorem message_at (v q : Nat) (hvq : v ≠ q) (k : Int) (r : Rd) (hl : r.l.length ≤ 9223372036854775807) (he12 : r.e ≠ 12) (w : World) (h : Rds VRd PackRd v q false r w) :
    Calls Try.prog 65 #[.pointer (some ⟨v, 0, none⟩), .int .i64 k] w fun e w' => MesSaid v q (msgR k r) w e w' := by
  cases hk : isKind k
  · have hx := Lib.hid (msg_no k r hk)
    have hk1 : (k == 1) = false := beq_eq_false_iff_ne.2 (fun e => by subst e; simp [isKind] at hk)
    have hk2 : (k == 2) = false := beq_eq_false_iff_ne.2 (fun e => by subst e; simp [isKind] at hk)
    have hk3 : (k == 3) = false := beq_eq_false_iff_ne.2 (fun e => by subst e; simp [isKind] at hk)
    have hk4 : (k == 4) = false := beq_eq_false_iff_ne.2 (fun e => by subst e; simp [isKind] at hk)
    have hk5 : (k == 5) = false := beq_eq_false_iff_ne.2 (fun e => by subst e; simp [isKind] at hk)
    have hk6 : (k == 6) = false := beq_eq_false_iff_ne.2 (fun e => by subst e; simp [isKind] at hk)
    clear hk
    go_enter Try.func65, Try.ntmps65
    go_wp2
    go_ret
    exact mes_of hx.out rfl rfl h (Gr2.refl _ _ _)
  · rcases kinds k hk with rfl | rfl | rfl | rfl | rfl | rfl
    · as_aux_lemma =>
      clear hk
      rcases e0 : numR r with ⟨a0, r1⟩
      rcases e1 : numR r1 with ⟨a1, r2⟩
      rcases e2 : numR r2 with ⟨a2, r3⟩
      rcases e3 : numR r3 with ⟨a3, r4⟩
      rcases e4 : numR r4 with ⟨a4, r5⟩
      rcases e5 : numR r5 with ⟨a5, r6⟩
      have hx : msgR 1 r = (.vote a0 (a1, a2) a3 a4 a5, false, r6) := by simp [msgR, voteR, numsR, e0, e1, e2, e3, e4, e5]
      have hz : numsR 2 r1 = ([a1, a2], r3) := by simp [numsR, e1, e2]
      have HX := Lib.hid hx
      have HC := Lib.hid (vote_at v q hvq false r _ _ _ _ _ a0 a1 a2 a3 a4 a5 hl e0 hz e3 e4 e5 w h)
      clear hx hz e0 e1 e2 e3 e4 e5
      go_enter Try.func65, Try.ntmps65
      go_wp2_with (fail)
      refine HC.out.mono ?_
      rintro e w1 ⟨rfl, hs, hg⟩
      go_wp2
      go_ret
      exact mes_of HX.out rfl rfl hs hg
    · as_aux_lemma =>
      clear hk
      rcases e0 : numR r with ⟨a0, r1⟩
      rcases e1 : numR r1 with ⟨a1, r2⟩
      rcases e2 : numR r2 with ⟨a2, r3⟩
      rcases e3 : numR r3 with ⟨a3, r4⟩
      rcases e4 : numR r4 with ⟨a4, r5⟩
      have hx : msgR 2 r = (.info a0 a1 a2 (a3, a4), false, r5) := by simp [msgR, infoR, numsR, e0, e1, e2, e3, e4]
      have hz : numsR 2 r3 = ([a3, a4], r5) := by simp [numsR, e3, e4]
      have HX := Lib.hid hx
      have HC := Lib.hid (info_at v q hvq false r _ _ _ _ a0 a1 a2 a3 a4 hl e0 e1 e2 hz w h)
      clear hx hz e0 e1 e2 e3 e4
      go_enter Try.func65, Try.ntmps65
      go_wp2_with (fail)
      refine HC.out.mono ?_
      rintro e w1 ⟨rfl, hs, hg⟩
      go_wp2
      go_ret
      exact mes_of HX.out rfl rfl hs hg
    · as_aux_lemma =>
      clear hk
      rcases e0 : numR r with ⟨a0, r1⟩
      rcases e1 : numR r1 with ⟨a1, r2⟩
      rcases e2 : numR r2 with ⟨a2, r3⟩
      rcases e3 : numR r3 with ⟨a3, r4⟩
      rcases e4 : numR r4 with ⟨a4, r5⟩
      rcases e5 : numR r5 with ⟨a5, r6⟩
      rcases e6 : textR r6 with ⟨s6, r7⟩
      rcases e7 : numR r7 with ⟨a7, r8⟩
      rcases e8 : (if badNum a7 = true then ([], r8) else entsR a7.toNat [] r8) with ⟨L, r9⟩
      have hx : msgR 3 r = (.sync a0 a1 (a2, a3) (a4, a5) s6 L, badNum a7, r9) := by simp [msgR, syncR, syncER, syncNR, numsR, e0, e1, e2, e3, e4, e5, e6, e7, e8]
      have hz : numsR 2 r2 = ([a2, a3], r4) := by simp [numsR, e2, e3]
      have hy : numsR 2 r4 = ([a4, a5], r6) := by simp [numsR, e4, e5]
      have HX := Lib.hid hx
      have HC := Lib.hid (sync_at v q hvq false r _ _ _ _ _ _ _ a0 a1 a2 a3 a4 a5 a7 s6 L hl he12 e0 e1 hz hy e6 e7 e8 w h)
      unfold SyncSaid syncV at HC
      clear hx hz hy e0 e1 e2 e3 e4 e5 e6 e7 e8
      go_enter Try.func65, Try.ntmps65
      go_wp2_with (fail)
      refine HC.out.mono ?_
      rintro e w1 ⟨a, cap, rfl, hE, _, hs, hg⟩
      go_wp2
      go_ret
      exact mes_of HX.out rfl ⟨a, cap, rfl, hE⟩ hs hg
    · as_aux_lemma =>
      clear hk
      have HX : Hid (msgR 4 r = (.prop (entR r).1, false, (entR r).2)) := rfl
      have HC := Lib.hid (ent_at v q hvq false r hl w h)
      unfold entV at HC
      generalize (entR r).1 = x at *
      generalize (entR r).2 = r2 at *
      go_enter Try.func65, Try.ntmps65
      go_wp2_with (fail)
      refine HC.out.mono ?_
      rintro e w1 ⟨rfl, hs, hg⟩
      go_wp2
      go_ret
      exact mes_of HX.out rfl rfl hs hg
    · as_aux_lemma =>
      clear hk
      rcases e0 : numR r with ⟨a0, r1⟩
      rcases e1 : numR r1 with ⟨a1, r2⟩
      rcases e2 : numR r2 with ⟨a2, r3⟩
      have hx : msgR 5 r = (.ack (decide (a0 = 1)) (a1, a2), badFlag a0, r3) := by simp [msgR, ackR, numsR, e0, e1, e2]
      have hz : numsR 2 r1 = ([a1, a2], r3) := by simp [numsR, e1, e2]
      have HX := Lib.hid hx
      have HC := Lib.hid (ack_at v q hvq false r _ _ a0 a1 a2 hl e0 hz w h)
      simp only [Bool.false_or] at HC
      clear hx hz e0 e1 e2
      go_enter Try.func65, Try.ntmps65
      go_wp2_with (fail)
      refine HC.out.mono ?_
      rintro e w1 ⟨rfl, hs, hg⟩
      go_wp2
      go_ret
      exact mes_of HX.out rfl rfl hs hg
    · as_aux_lemma =>
      clear hk
      rcases e0 : numR r with ⟨a0, r1⟩
      rcases e1 : numR r1 with ⟨a1, r2⟩
      rcases e2 : numR r2 with ⟨a2, r3⟩
      rcases e3 : numR r3 with ⟨a3, r4⟩
      rcases e4 : textR r4 with ⟨s4, r5⟩
      have hx : msgR 6 r = (.ask a0 a1 a2 (decide (a3 = 1)) s4, badFlag a3, r5) := by simp [msgR, askR, numsR, e0, e1, e2, e3, e4]
      have HX := Lib.hid hx
      have HC := Lib.hid (ask_at v q hvq false r _ _ _ _ _ a0 a1 a2 a3 s4 hl e0 e1 e2 e3 e4 w h)
      simp only [Bool.false_or] at HC
      clear hx e0 e1 e2 e3 e4
      go_enter Try.func65, Try.ntmps65
      go_wp2_with (fail)
      refine HC.out.mono ?_
      rintro e w1 ⟨rfl, hs, hg⟩
      go_wp2
      go_ret
      exact mes_of HX.out rfl rfl hs hg
theorem msgR_len (k : Int) (r : Rd) (h : r.l.length ≤ 9223372036854775807) : lenMv (msgR k r).1 := by
  unfold msgR
  split
  · exact trivial
  split
  · exact trivial
  split
  · exact Nat.le_trans (textR_le (numsR 6 r).2) (Nat.le_trans (numsR_le 6 r) h)
  split
  · exact trivial
  split
  · exact trivial
  split
  · exact trivial
  · exact trivial
theorem msgR_is (k : Int) (r : Rd) : isMv (msgR k r).1 = isKind k := by
  cases h : isKind k
  · rw [msg_no k r h]; rfl
  · rcases kinds k h with rfl | rfl | rfl | rfl | rfl | rfl <;> rfl
theorem entsR_err (n : Nat) : ∀ (D : List Ent) (r : Rd), r.e ≠ 12 → (entsR n D r).2.e ≠ 12 := by
  induction n with
  | zero => intro D r h; exact h
  | succ n ih =>
    intro D r h
    unfold entsR
    split
    · exact h
    · exact ih _ _ (entR_err r h)
theorem syncNR_err (r : Rd) (h : r.e ≠ 12) : (syncNR r).2.e ≠ 12 := by unfold syncNR; exact numR_err (textR (numsR 6 r).2).2 (textR_err (numsR 6 r).2 (numsR_err 6 r h))
theorem syncER_err (r : Rd) (h : r.e ≠ 12) : (syncER r).2.e ≠ 12 := by
  have h1 := syncNR_err r h
  have h2 := fun n => entsR_err n [] (syncNR r).2 h1
  unfold syncER
  generalize syncNR r = x at *
  by_cases hb : badNum x.1 = true
  · rw [if_pos hb]; exact h1
  · rw [if_neg hb]; exact h2 _
theorem msgR_err (k : Int) (r : Rd) (h : r.e ≠ 12) : (msgR k r).2.2.e ≠ 12 := by
  unfold msgR
  split
  · simp only [voteR]; exact numsR_err 6 r h
  split
  · simp only [infoR]; exact numsR_err 5 r h
  split
  · simp only [syncR]; exact syncER_err r h
  split
  · exact entR_err r h
  split
  · simp only [ackR]; exact numsR_err 2 (numR r).2 (numR_err r h)
  split
  · simp only [askR]; exact textR_err (numR (numsR 3 r).2).2 (numR_err (numsR 3 r).2 (numsR_err 3 r h))
  · exact h
theorem dec_e1 (l : List UInt8) (h : (numR ⟨l, 0⟩).2.e ≠ 0) : decR l = (.none, (numR ⟨l, 0⟩).2.e) := by unfold decR; rw [if_pos h]
theorem dec_e2 (l : List UInt8) (h : (numR ⟨l, 0⟩).2.e = 0) (k : isKind (numR ⟨l, 0⟩).1 = false) : decR l = (.none, 14) := by unfold decR; rw [if_neg (by omega), if_pos k]
theorem dec_go (l : List UInt8) (h : (numR ⟨l, 0⟩).2.e = 0) (k : isKind (numR ⟨l, 0⟩).1 = true) : decR l = restR (msgR (numR ⟨l, 0⟩).1 (numR ⟨l, 0⟩).2) := by unfold decR; rw [if_neg (by omega), if_neg (by simp [k])]
theorem rest_e (m : Mv) (b : Bool) (r : Rd) (h : r.e ≠ 0) : restR (m, b, r) = (.none, r.e) := by unfold restR; rw [if_pos h]
theorem rest_b (m : Mv) (b : Bool) (r : Rd) (h : r.e = 0) (k : (b || !rightMv m) = true) : restR (m, b, r) = (.none, 11) := by unfold restR; rw [if_neg (by simpa using h), if_pos k]
theorem rest_m (m : Mv) (b : Bool) (r : Rd) (h : r.e = 0) (k : (b || !rightMv m) = false) (hl : r.l ≠ []) : restR (m, b, r) = (.none, 12) := by unfold restR; rw [if_neg (by simpa using h), if_neg (by simp [k]), if_pos hl]
theorem rest_ok (m : Mv) (b : Bool) (r : Rd) (h : r.e = 0) (k : (b || !rightMv m) = false) (hl : r.l = []) : restR (m, b, r) = (m, 0) := by unfold restR; rw [if_neg (by simpa using h), if_neg (by simp [k]), if_neg (by simp [hl])]
def DecSaid (x : Mv × Nat) (w : World) (e : Ending) (w' : World) : Prop := ∃ u, e = .returned (.tuple #[u, .int .i64 (x.2 : Int)]) ∧ MvAt w' x.1 u ∧ Below w.heap.size w w'
theorem dec_of {x : Mv × Nat} {m : Mv} {k : Nat} {w : World} {e : Ending} {w' : World} {u : Value} (hx : x = (m, k)) (he : e = .returned (.tuple #[u, .int .i64 (k : Int)])) (hm : MvAt w' m u) (hb : Below w.heap.size w w') : DecSaid x w e w' := by subst hx; exact ⟨u, he, hm, hb⟩
set_option maxRecDepth 100000 in
set_option maxHeartbeats 4000000 in
theorem decode_any (l : List UInt8) (hl : l.length ≤ 9223372036854775807) (w : World) : Calls Try.prog 47 #[.string (bs l)] w fun e w' => DecSaid (decR l) w e w' := by
  have HD1 := Lib.hid (dec_e1 l)
  have HD2 := Lib.hid (dec_e2 l)
  have HD3 := Lib.hid (dec_go l)
  have hl1 := numR_len ⟨l, 0⟩
  have he1 := numR_err ⟨l, 0⟩ (by simp)
  rcases hN : numR ⟨l, 0⟩ with ⟨k, r1⟩
  rw [hN] at HD1 HD2 HD3 hl1 he1
  simp only at HD1 HD2 HD3 hl1 he1
  have hl1 : r1.l.length ≤ 9223372036854775807 := Nat.le_trans hl1 hl
  have hlen := msgR_len k r1 hl1
  have his := msgR_is k r1
  have her := msgR_err k r1 he1
  have HM := Lib.hid (fun v q hvq w h => message_at v q hvq k r1 hl1 he1 w h)
  unfold MesSaid at HM
  have HRD := Lib.hid (read_any l w)
  have HNU := Lib.hid (fun v q hvq X hX => pnum_at v q hvq false ⟨l, 0⟩ hl hN X hX)
  have HWE := Lib.hid (fun v q b r he X hX => well_at v q b r he X hX)
  have HEN := Lib.hid (fun q r X hX => end_any q r X hX)
  rcases hX : msgR k r1 with ⟨m, bad, r2⟩
  rw [hX] at HM HD3 hlen his her
  simp only at HM HD3 hlen his her
  have HRI := Lib.hid (fun u X hX => right_all m u X hX hlen)
  unfold RightSaid at HRI
  have HRE := Lib.hid (rest_e m bad r2)
  have HRB := Lib.hid (rest_b m bad r2)
  have HRM := Lib.hid (rest_m m bad r2)
  have HRO := Lib.hid (rest_ok m bad r2)
  generalize decR l = D at *
  generalize restR (m, bad, r2) = E at *
  generalize rightMv m = R at *
  rw [his] at HRI
  clear his hX hN hl hlen
  go_enter Try.func47, Try.ntmps47
  go_wp2_with (fail)
  refine HRD.out.mono ?_
  rintro e w1 ⟨rfl, hR1, hb1⟩
  clear HRD
  have hvq : w1.heap.size ≠ w.heap.size := fun e => by have := RdAt.lt hR1; omega
  obtain ⟨W, hW⟩ : ∃ X, X = w1.alloc (.cells #[.pointer (some ⟨w.heap.size, 0, none⟩), .bool false] VRd) := ⟨_, rfl⟩
  have hS : Rds VRd PackRd w1.heap.size w.heap.size false ⟨l, 0⟩ W := by rw [hW]; exact ⟨BlkAt.alloc_new w1 _ _, BlkAt.grew (rd_blk hR1) (alloc_below w1 _)⟩
  have hBW : Below w.heap.size w W := by rw [hW]; exact hb1.trans ((alloc_below w1 _).mono hb1.size)
  have hvw : w.heap.size ≤ w1.heap.size := hb1.size
  have HW := Lib.hid hW
  clear hW hR1 hb1
  go_upto_region 2 with (fail)
  rw [← HW.out]
  clear HW
  generalize w1.heap.size = v at *
  have HB : Hid (∀ X, Gr2 w.heap.size v W X → Below w.heap.size w X) := fun X hX => hX.below hBW (Nat.le_refl _) hvw
  have m0 : W.cell? ⟨v, 0, none⟩ = some (.pointer (some ⟨w.heap.size, 0, none⟩)) := BlkAt.cell hS.v rfl
  go_wp2_with (fail)
  refine (HNU.out v _ hvq _ hS).mono ?_
  rintro e w2 ⟨rfl, hs2, hg2⟩
  clear m0 HNU hS
  go_wp2_with (fail)
  refine (HWE.out v _ false r1 he1 _ hs2).mono ?_
  rintro e w3 ⟨rfl, rfl⟩
  by_cases h1 : r1.e = 0
  case neg =>
    as_aux_lemma =>
    rw [decide_eq_false h1]
    have HD := Lib.hid (HD1.out h1)
    have HEb := Lib.hid (endR_bad r1 h1)
    have m0 : w3.cell? ⟨v, 0, none⟩ = some (.pointer (some ⟨w.heap.size, 0, none⟩)) := BlkAt.cell hs2.v rfl
    clear HD1 HD2 HD3 HM HRI HRE HRB HRM HRO h1
    go_wp2_with (fail)
    refine (HEN.out _ _ _ hs2.r).mono ?_
    rintro e w4 ⟨rfl, rfl⟩
    rw [HEb.out]
    go_wp2
    go_ret2
    exact dec_of HD.out rfl rfl (HB.out _ hg2)
  rw [decide_eq_true h1]
  go_wp2_with (fail)
  refine (HM.out v _ hvq _ hs2).mono ?_
  rintro e w4 ⟨u, rfl, hm, hs4, hg4⟩
  have hg4 := hg2.trans hg4
  clear hg2 hs2 HM
  go_wp2_with (fail)
  refine (HRI.out u _ hm).mono ?_
  rintro e w5 ⟨rfl, hb5⟩
  have hs5 := hs4.grew hb5
  have hm5 := hm.grew hb5
  have hg5 := hg4.trans (Gr2.of_below hb5)
  clear hs4 hm hg4 hb5
  cases hk : isKind k
  · as_aux_lemma =>
    have HD := Lib.hid (HD2.out h1 hk)
    clear HD1 HD2 HD3 HRI HRE HRB HRM HRO h1 hk
    go_wp2
    go_ret2
    exact dec_of HD.out rfl rfl (HB.out _ hg5)
  have HD := Lib.hid (HD3.out h1 hk)
  clear HD1 HD2 HD3 h1
  go_wp2_with (fail)
  refine (HWE.out v _ bad r2 her _ hs5).mono ?_
  rintro e w6 ⟨rfl, rfl⟩
  by_cases h2 : r2.e = 0
  case neg =>
    as_aux_lemma =>
    rw [decide_eq_false h2]
    have HE := Lib.hid (HRE.out h2)
    have HEb := Lib.hid (endR_bad r2 h2)
    have m0 : w6.cell? ⟨v, 0, none⟩ = some (.pointer (some ⟨w.heap.size, 0, none⟩)) := BlkAt.cell hs5.v rfl
    clear HRI HRE HRB HRM HRO h2
    go_wp2_with (fail)
    refine (HEN.out _ _ _ hs5.r).mono ?_
    rintro e w7 ⟨rfl, rfl⟩
    rw [HEb.out]
    go_wp2
    go_ret2
    exact dec_of (HD.out.trans HE.out) rfl rfl (HB.out _ hg5)
  rw [decide_eq_true h2]
  rw [hk] at HRI
  go_wp2_with (fail)
  refine (HRI.out u _ hm5).mono ?_
  rintro e w7 ⟨rfl, hb7⟩
  have hs7 := hs5.grew hb7
  have hm7 := hm5.grew hb7
  have hg7 := hg5.trans (Gr2.of_below hb7)
  clear hs5 hm5 hg5 hb7 HRI hk
  have m1 : w7.cell? ⟨v, 1, none⟩ = some (.bool bad) := BlkAt.cell hs7.v rfl
  cases hbr : (bad || !R)
  case true =>
    as_aux_lemma =>
    have HE := Lib.hid (HRB.out h2 hbr)
    clear HRE HRB HRM HRO h2
    cases bad <;> cases R <;> first | (exact absurd hbr (by decide)) | skip
    all_goals
      clear hbr
      go_wp2
      go_ret2
      exact dec_of (HD.out.trans HE.out) rfl rfl (HB.out _ hg7)
  have m0 : w7.cell? ⟨v, 0, none⟩ = some (.pointer (some ⟨w.heap.size, 0, none⟩)) := BlkAt.cell hs7.v rfl
  obtain ⟨rfl, rfl⟩ : bad = false ∧ R = true := by cases bad <;> cases R <;> first | (exact absurd hbr (by decide)) | exact ⟨rfl, rfl⟩
  by_cases h3 : r2.l = []
  · as_aux_lemma =>
    have HE := Lib.hid (HRO.out h2 hbr h3)
    have HEb := Lib.hid (endR_no r2 (fun hh => hh.2 h3))
    have HE2 := Lib.hid h2
    clear HRE HRB HRM HRO h2 hbr h3
    go_wp2_with (fail)
    refine (HEN.out _ _ _ hs7.r).mono ?_
    rintro e w8 ⟨rfl, rfl⟩
    rw [HEb.out, HE2.out]
    go_wp2
    go_ret2
    exact dec_of (HD.out.trans HE.out) rfl hm7 (HB.out _ hg7)
  · as_aux_lemma =>
    have HE := Lib.hid (HRM.out h2 hbr h3)
    have HEb := Lib.hid (endR_ok r2 h2 h3)
    clear HRE HRB HRM HRO h2 hbr h3
    go_wp2_with (fail)
    refine (HEN.out _ _ _ hs7.r).mono ?_
    rintro e w8 ⟨rfl, rfl⟩
    rw [HEb.out]
    go_wp2
    go_ret2
    exact dec_of (HD.out.trans HE.out) rfl rfl (HB.out _ hg7)
end Go.Proofs.Ytlbacddgjagcbaa
