/- The law ValueBack. Conditions: as each theorem says. -/
import Derived.Test.YtlbacddgjagcbaaValDf
import Derived.Test.YtlbacddgjagcbaaValW
import Derived.Test.YtlbacddgjagcbaaValEn
namespace Go.Proofs.Ytlbacddgjagcbaa
open Go.RowKit

theorem numsL_short (l : List Int) (k : Nat) (h : ∀ x ∈ l, i64B x) (hl : l.length ≤ k) : (numsL l).length ≤ 10 * k := Nat.le_trans (numsL_len l h) (Nat.mul_le_mul_left 10 hl)
theorem bytes_len (x : Mv) (hx : okMv x) (hr : rightMv x = true) : (bytesMv x).length ≤ 2000000000 := by
  cases x with
  | vote l z p r s =>
    obtain ⟨h1, h2, h3, h4, h5, h6⟩ := hx
    have := numsL_short [1, l, z.1, z.2, p, r, s] 7 (i64c ⟨by decide, by decide⟩ (i64c h1 (i64c h2 (i64c h3 (i64c h4 (i64c h5 (i64c h6 i64n))))))) (by simp)
    rw [bytes_vote]; omega
  | info k p o z =>
    obtain ⟨h1, h2, h3, h4, h5⟩ := hx
    have := numsL_short [2, k, p, o, z.1, z.2] 6 (i64c ⟨by decide, by decide⟩ (i64c h1 (i64c h2 (i64c h3 (i64c h4 (i64c h5 i64n)))))) (by simp)
    rw [bytes_info]; omega
  | sync k p f z b L =>
    have hfew := sync_few hr
    obtain ⟨h1, h2, h3, h4, h5, h6, h7, h8, h9⟩ := hx
    have a1 := numsL_short [3, k, p, f.1, f.2, z.1, z.2] 7 (i64c ⟨by decide, by decide⟩ (i64c h1 (i64c h2 (i64c h3 (i64c h4 (i64c h5 (i64c h6 i64n))))))) (by simp)
    have a2 := textL_len b (by omega)
    have a3 := numsL_short [(L.length : Int)] 1 (i64c ⟨by omega, by omega⟩ i64n) (by simp)
    have a4 := ents_len L h9
    have a5 : L.length * 1000030 ≤ 1000 * 1000030 := Nat.mul_le_mul_right _ hfew
    rw [bytes_sync]
    unfold syncL syncHead
    simp only [List.length_append]
    omega
  | prop x =>
    have a1 := numsL_short [4] 1 (i64c ⟨by decide, by decide⟩ i64n) (by simp)
    have a2 := entL_len x hx.1.1 hx.1.2.1 hx.1.2.2
    rw [bytes_prop, List.length_append]; omega
  | ack f z =>
    obtain ⟨h1, h2⟩ := hx
    have := numsL_short [5, flagI f, z.1, z.2] 4 (i64c ⟨by decide, by decide⟩ (i64c (i64f f) (i64c h1 (i64c h2 i64n)))) (by simp)
    rw [bytes_ack]; omega
  | ask n c q f b =>
    obtain ⟨h1, h2, h3, h4⟩ := hx
    have a1 := numsL_short [6, n, c, q, flagI f] 5 (i64c ⟨by decide, by decide⟩ (i64c h1 (i64c h2 (i64c h3 (i64c (i64f f) i64n))))) (by simp)
    have a2 := textL_len b (by omega)
    rw [bytes_ask, List.length_append]; omega
  | none => simp [rightMv] at hr
theorem enc_right (x : Mv) (h : errMv x = 0) : rightMv x = true := by
  cases x <;> simp only [errMv] at h <;> first | (split at h <;> first | assumption | (exact absurd h (by decide))) | (exact absurd h (by decide))
theorem enc_wrong (x : Mv) (h : errMv x ≠ 0) : encMv x = [] := by
  unfold encMv
  by_cases hr : rightMv x = true
  · exfalso
    cases x <;> simp_all [errMv, rightMv]
  · rw [if_neg hr]
theorem enc_of (x : Mv) (h : rightMv x = true) : encMv x = bytesMv x ∧ errMv x = 0 := by
  refine ⟨by unfold encMv; rw [if_pos h], ?_⟩
  cases x <;> simp_all [errMv, rightMv]
/-- The first half: what is encoded is decoded. -/
theorem back1 (x : Mv) (hx : okMv x) (h : errMv x = 0) : (encMv x).length ≤ 9223372036854775807 ∧ decR (encMv x) = (x, 0) := by
  have hr := enc_right x h
  have e := (enc_of x hr).1
  have := bytes_len x hx hr
  rw [e]
  exact ⟨by omega, dec_bytes x hx hr⟩
/-- The second half: what is decoded is encoded again. -/
theorem back2 (l : List UInt8) (h : (decR l).2 = 0) : encMv (decR l).1 = l ∧ errMv (decR l).1 = 0 := by
  obtain ⟨h1, h2⟩ := dec_fwd l h
  obtain ⟨e1, e2⟩ := enc_of _ h1
  exact ⟨e1.trans h2, e2⟩
set_option maxRecDepth 100000 in
set_option maxHeartbeats 16000000 in
/-- THE LAW. -/
theorem valueBack_walk (w : World) (v0 : Value) (s : ByteArray) (h0 : IsMsg w v0) (hs : s.size ≤ maxLen) :
    Calls Try.prog 15 #[v0, .string s] w fun e w' => e = .returned (.bool true) ∧ Below w.heap.size w w' := by
  obtain ⟨m, a, cap, rfl, hE, hm⟩ := h0
  unfold maxLen at hs
  obtain ⟨l, rfl⟩ : ∃ l, s = bs l := ⟨_, (bs_of s).symm⟩
  have hz := bs_size l
  have HF : Hid (∀ X, EntsIn X a cap m.ents → Calls Try.prog 34 #[msgV m a cap] X fun e w' => e = .returned (.bool (fewM m)) ∧ Below X.heap.size X w') := fun X hX => fewM_any m a cap X hX hm
  have HO : Hid (∀ X, fewM m = true → EntsIn X a cap m.ents → Calls Try.prog 36 #[msgV m a cap] X fun e w' => OfSaid m X e w') := fun X hf hX => of_any m a cap X hX hm hf
  have HOK := Lib.hid (fun hf => ofM_ok m hm hf hE.2.2.2)
  have HWk := Lib.hid (fun X => wake_any X)
  have hbo := Nat.le_trans hE.1 hE.2.1
  unfold maxLen at hbo
  obtain ⟨ty, ld, ⟨z1, z2⟩, ep, own, ⟨f1, f2⟩, rnd, st, kd, body, ents, flag, node, cli, seq⟩ := m
  simp only at hE hbo
  unfold msgV msgCells at HF HO ⊢
  simp only at HF HO ⊢
  obtain ⟨W, hW⟩ : ∃ X, X = w.alloc (.cells #[.int .i64 ty, .int .i64 ld, .int .i64 z1, .int .i64 z2, .int .i64 ep, .int .i64 own, .int .i64 f1, .int .i64 f2, .int .i64 rnd, .int .i64 st, .int .i64 kd, .string (bs body), .slice a ents.length cap, .bool flag, .int .i64 node, .int .i64 cli, .int .i64 seq] 51) := ⟨_, rfl⟩
  have hk : W.heap[w.heap.size]? = some (.cells #[.int .i64 ty, .int .i64 ld, .int .i64 z1, .int .i64 z2, .int .i64 ep, .int .i64 own, .int .i64 f1, .int .i64 f2, .int .i64 rnd, .int .i64 st, .int .i64 kd, .string (bs body), .slice a ents.length cap, .bool flag, .int .i64 node, .int .i64 cli, .int .i64 seq] 51 (0, 0)) := by rw [hW]; exact heap_alloc_new w _
  have hB : Below w.heap.size w W := by rw [hW]; exact alloc_below w _
  have HE := Lib.hid (fun X (hX : Below W.heap.size W X) => (hE.grew hB).grew hX)
  have HK0 := Lib.hid (fun X (hX : Below W.heap.size W X) => Grew.at_ hX hk)
  have HWe := Lib.hid hW
  clear hW hk hE hm
  go_enter Try.func15, Try.ntmps15
  go_upto_region 1 with (fail)
  rw [← HWe.out]
  clear HWe
  have HB : Hid (∀ X, Below W.heap.size W X → Below w.heap.size w X) := fun X hX => hB.trans (hX.mono hB.size)
  generalize hg : w.heap.size = g at *
  have HG := Lib.hid hg
  clear hg
  have m0 : W.cell? ⟨g, 0, none⟩ = some (.int .i64 ty) := by rw [Lib.cell_of_heap (HK0.out _ (Below.refl _ _))]; rfl
  have m1 : W.cell? ⟨g, 1, none⟩ = some (.int .i64 ld) := by rw [Lib.cell_of_heap (HK0.out _ (Below.refl _ _))]; rfl
  have m2 : W.cell? ⟨g, 2, none⟩ = some (.int .i64 z1) := by rw [Lib.cell_of_heap (HK0.out _ (Below.refl _ _))]; rfl
  have m3 : W.cell? ⟨g, 3, none⟩ = some (.int .i64 z2) := by rw [Lib.cell_of_heap (HK0.out _ (Below.refl _ _))]; rfl
  have m4 : W.cell? ⟨g, 4, none⟩ = some (.int .i64 ep) := by rw [Lib.cell_of_heap (HK0.out _ (Below.refl _ _))]; rfl
  have m5 : W.cell? ⟨g, 5, none⟩ = some (.int .i64 own) := by rw [Lib.cell_of_heap (HK0.out _ (Below.refl _ _))]; rfl
  have m6 : W.cell? ⟨g, 6, none⟩ = some (.int .i64 f1) := by rw [Lib.cell_of_heap (HK0.out _ (Below.refl _ _))]; rfl
  have m7 : W.cell? ⟨g, 7, none⟩ = some (.int .i64 f2) := by rw [Lib.cell_of_heap (HK0.out _ (Below.refl _ _))]; rfl
  have m8 : W.cell? ⟨g, 8, none⟩ = some (.int .i64 rnd) := by rw [Lib.cell_of_heap (HK0.out _ (Below.refl _ _))]; rfl
  have m9 : W.cell? ⟨g, 9, none⟩ = some (.int .i64 st) := by rw [Lib.cell_of_heap (HK0.out _ (Below.refl _ _))]; rfl
  have m10 : W.cell? ⟨g, 10, none⟩ = some (.int .i64 kd) := by rw [Lib.cell_of_heap (HK0.out _ (Below.refl _ _))]; rfl
  have m11 : W.cell? ⟨g, 11, none⟩ = some (.string (bs body)) := by rw [Lib.cell_of_heap (HK0.out _ (Below.refl _ _))]; rfl
  have m12 : W.cell? ⟨g, 12, none⟩ = some (.slice a ents.length cap) := by rw [Lib.cell_of_heap (HK0.out _ (Below.refl _ _))]; rfl
  have m13 : W.cell? ⟨g, 13, none⟩ = some (.bool flag) := by rw [Lib.cell_of_heap (HK0.out _ (Below.refl _ _))]; rfl
  have m14 : W.cell? ⟨g, 14, none⟩ = some (.int .i64 node) := by rw [Lib.cell_of_heap (HK0.out _ (Below.refl _ _))]; rfl
  have m15 : W.cell? ⟨g, 15, none⟩ = some (.int .i64 cli) := by rw [Lib.cell_of_heap (HK0.out _ (Below.refl _ _))]; rfl
  have m16 : W.cell? ⟨g, 16, none⟩ = some (.int .i64 seq) := by rw [Lib.cell_of_heap (HK0.out _ (Below.refl _ _))]; rfl
  go_wp2_with (fail)
  refine (HF.out _ (HE.out _ (Below.refl _ _))).mono ?_
  rintro e w1 ⟨rfl, hb1⟩
  clear HF m0 m1 m2 m3 m4 m5 m6 m7 m8 m9 m10 m11 m12 m13 m14 m15 m16
  by_cases hf : fewM ⟨ty, ld, (z1, z2), ep, own, (f1, f2), rnd, st, kd, body, ents, flag, node, cli, seq⟩ = true
  case neg =>
    as_aux_lemma =>
    rw [Bool.eq_false_iff.2 hf]
    clear HK0 HO HE HOK hf
    go_wp2_with (fail)
    refine (HWk.out _).mono ?_
    rintro e w2 ⟨rfl, hb2⟩
    go_wp2
    go_ret
    exact ⟨rfl, by rw [HG.out]; exact HB.out _ (hb1.trans (hb2.mono hb1.size))⟩
  rw [hf]
  by_cases hlen : l.length ≤ 20000
  case neg =>
    as_aux_lemma =>
    have t1 : decide ((20000 : Int) < ((bs l).size : Int)) = true := decide_eq_true (by rw [hz]; omega)
    clear HK0 HO HE HOK hf hz hlen
    go_wp2_with (fail)
    refine (HWk.out _).mono ?_
    rintro e w2 ⟨rfl, hb2⟩
    go_wp2
    go_ret
    exact ⟨rfl, by rw [HG.out]; exact HB.out _ (hb1.trans (hb2.mono hb1.size))⟩
  have t1 : decide ((20000 : Int) < ((bs l).size : Int)) = false := decide_eq_false (by rw [hz]; omega)
  have hok := HOK.out hf
  have HO1 := Lib.hid (fun X hX => HO.out X hf (HE.out X hX))
  have HD := Lib.hid (fun X => decode_any l (by omega) X)
  have hokd := decR_ok l (by omega)
  have HB2 := Lib.hid (back2 l)
  have HN := Lib.hid (dec_none l)
  unfold DecSaid at HD
  clear hf HOK HO hlen hz HE
  have m0 : w1.cell? ⟨g, 0, none⟩ = some (.int .i64 ty) := by rw [Lib.cell_of_heap (HK0.out _ hb1)]; rfl
  have m1 : w1.cell? ⟨g, 1, none⟩ = some (.int .i64 ld) := by rw [Lib.cell_of_heap (HK0.out _ hb1)]; rfl
  have m2 : w1.cell? ⟨g, 2, none⟩ = some (.int .i64 z1) := by rw [Lib.cell_of_heap (HK0.out _ hb1)]; rfl
  have m3 : w1.cell? ⟨g, 3, none⟩ = some (.int .i64 z2) := by rw [Lib.cell_of_heap (HK0.out _ hb1)]; rfl
  have m4 : w1.cell? ⟨g, 4, none⟩ = some (.int .i64 ep) := by rw [Lib.cell_of_heap (HK0.out _ hb1)]; rfl
  have m5 : w1.cell? ⟨g, 5, none⟩ = some (.int .i64 own) := by rw [Lib.cell_of_heap (HK0.out _ hb1)]; rfl
  have m6 : w1.cell? ⟨g, 6, none⟩ = some (.int .i64 f1) := by rw [Lib.cell_of_heap (HK0.out _ hb1)]; rfl
  have m7 : w1.cell? ⟨g, 7, none⟩ = some (.int .i64 f2) := by rw [Lib.cell_of_heap (HK0.out _ hb1)]; rfl
  have m8 : w1.cell? ⟨g, 8, none⟩ = some (.int .i64 rnd) := by rw [Lib.cell_of_heap (HK0.out _ hb1)]; rfl
  have m9 : w1.cell? ⟨g, 9, none⟩ = some (.int .i64 st) := by rw [Lib.cell_of_heap (HK0.out _ hb1)]; rfl
  have m10 : w1.cell? ⟨g, 10, none⟩ = some (.int .i64 kd) := by rw [Lib.cell_of_heap (HK0.out _ hb1)]; rfl
  have m11 : w1.cell? ⟨g, 11, none⟩ = some (.string (bs body)) := by rw [Lib.cell_of_heap (HK0.out _ hb1)]; rfl
  have m12 : w1.cell? ⟨g, 12, none⟩ = some (.slice a ents.length cap) := by rw [Lib.cell_of_heap (HK0.out _ hb1)]; rfl
  have m13 : w1.cell? ⟨g, 13, none⟩ = some (.bool flag) := by rw [Lib.cell_of_heap (HK0.out _ hb1)]; rfl
  have m14 : w1.cell? ⟨g, 14, none⟩ = some (.int .i64 node) := by rw [Lib.cell_of_heap (HK0.out _ hb1)]; rfl
  have m15 : w1.cell? ⟨g, 15, none⟩ = some (.int .i64 cli) := by rw [Lib.cell_of_heap (HK0.out _ hb1)]; rfl
  have m16 : w1.cell? ⟨g, 16, none⟩ = some (.int .i64 seq) := by rw [Lib.cell_of_heap (HK0.out _ hb1)]; rfl
  as_aux_lemma =>
  go_wp2_with (fail)
  refine (HO1.out _ hb1).mono ?_
  rintro e w2 ⟨u, rfl, hu2, hx2⟩
  have hb2 := hb1.trans (hx2.mono hb1.size)
  clear m0 m1 m2 m3 m4 m5 m6 m7 m8 m9 m10 m11 m12 m13 m14 m15 m16 HK0 HO1 hx2 hb1 t1
  generalize ofM ⟨ty, ld, (z1, z2), ep, own, (f1, f2), rnd, st, kd, body, ents, flag, node, cli, seq⟩ = x at *
  have HEn := Lib.hid (fun X hX => enc_any x u hok X hX)
  have HEnd := Lib.hid (fun u X hX => enc_any (decR l).1 u hokd X hX)
  have HPx := Lib.hid (fun u X hX => plain_all x u hok X hX)
  have HSx := Lib.hid (fun aA cA aB cB X hA hB => same_yes (plM x) aA aB cA cB X hA hB)
  have HB1 := Lib.hid (back1 x hok)
  have HEW := Lib.hid (enc_wrong x)
  have HDx := Lib.hid (fun hl X => decode_any (encMv x) hl X)
  unfold EncSaid at HEn HEnd
  unfold PlainAt at HPx
  unfold DecSaid at HDx
  generalize encMv x = S at *
  generalize errMv x = k at *
  generalize decR S = dS at *
  generalize hdl : decR l = d at *
  obtain ⟨m3, k3⟩ := d
  simp only at HD HEnd HB2 HN
  generalize hS3 : encMv m3 = S3 at *
  generalize hk3 : errMv m3 = k4 at *
  clear hok hokd hdl hS3 hk3
  go_wp2_with (fail)
  refine (HEn.out _ hu2).mono ?_
  rintro e w3 ⟨rfl, hx3⟩
  have hu3 := hu2.grew hx3
  have hb3 := hb2.trans (hx3.mono hb2.size)
  clear hu2 hx3 hb2 HEn
  -- the second half, in whatever world
  by_cases hk : k = 0
  case neg =>
    have hS : S = [] := HEW.out hk
    have t2 : ((k : Int) == 0) = false := beq_eq_false_iff_ne.2 (by omega)
    subst hS
    rw [show bs [] = (⟨#[]⟩ : ByteArray) from rfl]
    clear HB1 HEW HDx HPx HSx hk hu3
    have hcur := hb3
    generalize w3 = wc at *
    clear hb3
    as_aux_lemma =>
    go_wp2_with (fail)
    refine (HD.out _).mono ?_
    rintro e w8 ⟨u8, rfl, hu8, hx8⟩
    have hb8 := hcur.trans (hx8.mono hcur.size)
    clear hx8 hcur HD
    by_cases hk8 : k3 = 0
    case neg =>
      have t3 : ((k3 : Int) != 0) = true := by rw [bne_iff_ne]; omega
      obtain rfl : m3 = .none := HN.out hk8
      obtain rfl : u8 = .nilIface := hu8
      clear HN HB2 HEnd hk8
      go_wp2_with (fail)
      refine (HWk.out _).mono ?_
      rintro e w9 ⟨rfl, hb9⟩
      go_wp2
      go_ret
      exact ⟨rfl, by rw [HG.out]; exact HB.out _ (hb8.trans (hb9.mono hb8.size))⟩
    subst hk8
    obtain ⟨hS3, hk4⟩ := HB2.out rfl
    subst hS3 hk4
    have t4 : ((bs S3).toList == (bs S3).toList) = true := beq_self_eq_true _
    clear HN HB2
    go_wp2_with (fail)
    refine (HEnd.out _ _ hu8).mono ?_
    rintro e w9 ⟨rfl, hx9⟩
    have hb9 := hb8.trans (hx9.mono hb8.size)
    clear hx9 hb8 HEnd hu8
    go_wp2_with (fail)
    refine (HWk.out _).mono ?_
    rintro e w10 ⟨rfl, hb10⟩
    go_wp2
    go_ret
    exact ⟨rfl, by rw [HG.out]; exact HB.out _ (hb9.trans (hb10.mono hb9.size))⟩
  subst hk
  obtain ⟨hl1, hd1⟩ := HB1.out rfl
  subst hd1
  simp only at HDx
  have HDx := Lib.hid (HDx.out hl1)
  clear HB1 HEW hl1
  go_wp2_with (fail)
  refine (HDx.out _).mono ?_
  rintro e w4 ⟨u4, rfl, hu4, hx4⟩
  have hu4x := hu3.grew hx4
  have hb4 := hb3.trans (hx4.mono hb3.size)
  clear hu3 hx4 hb3 HDx
  go_wp2_with (fail)
  refine (HPx.out _ _ hu4x).mono ?_
  rintro e w5 ⟨aA, cA, rfl, hEA, hx5, _⟩
  have hu5 := hu4.grew hx5
  have hb5 := hb4.trans (hx5.mono hb4.size)
  clear hu4 hu4x hx5 hb4
  go_wp2_with (fail)
  refine (HPx.out _ _ hu5).mono ?_
  rintro e w6 ⟨aB, cB, rfl, hEB, hx6, _⟩
  have hEA6 := hEA.grew hx6
  have hb6 := hb5.trans (hx6.mono hb5.size)
  clear hu5 hEA hx6 hb5 HPx
  go_wp2_with (fail)
  refine (HSx.out _ _ _ _ _ hEA6 hEB).mono ?_
  rintro e w7 ⟨rfl, hx7⟩
  have hcur := hb6.trans (hx7.mono hb6.size)
  clear hEA6 hEB hx7 hb6 HSx
  generalize w7 = wc at *
  as_aux_lemma =>
  go_wp2_with (fail)
  refine (HD.out _).mono ?_
  rintro e w8 ⟨u8, rfl, hu8, hx8⟩
  have hb8 := hcur.trans (hx8.mono hcur.size)
  clear hx8 hcur HD
  by_cases hk8 : k3 = 0
  case neg =>
    have t3 : ((k3 : Int) != 0) = true := by rw [bne_iff_ne]; omega
    obtain rfl : m3 = .none := HN.out hk8
    obtain rfl : u8 = .nilIface := hu8
    clear HN HB2 HEnd hk8
    go_wp2_with (fail)
    refine (HWk.out _).mono ?_
    rintro e w9 ⟨rfl, hb9⟩
    go_wp2
    go_ret
    exact ⟨rfl, by rw [HG.out]; exact HB.out _ (hb8.trans (hb9.mono hb8.size))⟩
  subst hk8
  obtain ⟨hS3, hk4⟩ := HB2.out rfl
  subst hS3 hk4
  have t4 : ((bs S3).toList == (bs S3).toList) = true := beq_self_eq_true _
  clear HN HB2
  go_wp2_with (fail)
  refine (HEnd.out _ _ hu8).mono ?_
  rintro e w9 ⟨rfl, hx9⟩
  have hb9 := hb8.trans (hx9.mono hb8.size)
  clear hx9 hb8 HEnd hu8
  go_wp2_with (fail)
  refine (HWk.out _).mono ?_
  rintro e w10 ⟨rfl, hb10⟩
  go_wp2
  go_ret
  exact ⟨rfl, by rw [HG.out]; exact HB.out _ (hb9.trans (hb10.mono hb9.size))⟩
end Go.Proofs.Ytlbacddgjagcbaa
