/- The law IndexSorts. Conditions: as each theorem says. -/
import Derived.Test.YteoibolompiohaaIdxSi
namespace Go.Proofs.Yteoibolompiohaa
open Go.RowKit

theorem get_here {C : List Pr} (hs : SortedK C) (i : Nat) (hi : i < C.length) : numF C (C[i]).1 = (C[i]).2 ∧ hasF C (C[i]).1 = true := by
  have e : C = C.take i ++ ((C[i]).1, (C[i]).2) :: C.drop (i + 1) := by
    have e0 : ((C[i]).1, (C[i]).2) = C[i] := rfl
    rw [e0, List.getElem_cons_drop, List.take_append_drop]
  have hA : ∀ p ∈ C.take i, kLt p.1 (C[i]).1 = true := by
    have hs2 := hs
    rw [e, SortedK.append] at hs2
    exact fun p hp => hs2.2.2 p hp _ (by simp)
  generalize hk : (C[i]).1 = k at *
  generalize (C[i]).2 = v at *
  rw [e]
  exact ⟨numF_at _ _ _ _ hA, hasF_at _ _ _ _ hA⟩
theorem filter_at (f : Pr → Bool) (C : List Pr) (i : Nat) (hi : i < C.length) (h : f C[i] = true) : ∃ hm : ((C.take i).filter f).length < (C.filter f).length, (C.filter f)[((C.take i).filter f).length] = C[i] := by
  have e : C.filter f = (C.take i).filter f ++ (C[i] :: (C.drop (i + 1)).filter f) := by
    conv => lhs; rw [← List.take_append_drop i C]
    rw [List.filter_append, List.drop_eq_getElem_cons hi, List.filter_cons_of_pos h]
  refine ⟨by rw [e, List.length_append, List.length_cons]; omega, ?_⟩
  simp only [e]
  rw [List.getElem_append_right (Nat.le_refl _)]
  simp
theorem rng_filter {C : List Pr} (hs : SortedK C) (fr tk : Key) (h : C.length ≤ 500) : rngL (C.drop (spotF C fr)) tk 500 = C.filter (inR fr tk) := by
  rw [rng_ref hs]
  unfold rngRef
  exact List.take_of_length_le (Nat.le_trans (List.length_filter_le _ _) h)
/-- A row that came out of a range: where its pairs are. -/
theorem row_get {T : TypeId} {base : Nat} {L : List Pr} {a : Option Addr} {n c : Nat} {w : World} (h : Grow T 2 prCells base (.slice a n c) L w) : n = L.length ∧ ∀ i (hi : i < L.length), ∃ b, a = some ⟨b, 0, none⟩ ∧ w.cell? ⟨b, i * 2, none⟩ = some (.string (bs (L[i]).1)) ∧ w.cell? ⟨b, i * 2 + 1, none⟩ = some (.int .i64 (L[i]).2) := by
  obtain ⟨a', c', hv⟩ := h.slice
  simp only [Value.slice.injEq] at hv
  obtain ⟨rfl, rfl, rfl⟩ := hv
  refine ⟨rfl, fun i hi => ?_⟩
  obtain ⟨g, c2, hv, _⟩ := h.form (by omega)
  simp only [Value.slice.injEq] at hv
  have hc := h.cells prCells_len (by rw [hv.1]) i hi
  have h0 := hc 0 _ rfl
  have h1 := hc 1 _ rfl
  rw [Nat.add_zero] at h0
  exact ⟨g, hv.1, h0, h1⟩
set_option maxRecDepth 100000 in
set_option maxHeartbeats 4000000 in
theorem sorts_law (L : List Opr) (a : Option Addr) (c : Nat) (fr tk : Key) (w : World) (hL : L.length ≤ 9223372036854775807) (h : RowsAt 3 oprCells w (.slice a L.length c) L) :
    Calls Try.prog 5 #[.slice a L.length c, .string (bs fr), .string (bs tk)] w fun e w' => e = .returned (.bool true) ∧ Below w.heap.size w w' := by
  have HD := Lib.hid (done_any L a c w hL h)
  unfold DoneGot ptrV at HD
  have HAw := Lib.hid awake_any
  clear h hL
  generalize runC L (min L.length 400) = C at *
  go_enter Try.func5, Try.ntmps5
  go_upto_region 2 with (go_at_call 18; (with_reducible refine HD.out.mono ?_); rintro e w1 ⟨m, rfl, T1, b1⟩)
  have hs := T1.sorted
  have hl4 := T1.len
  have HR1 := tree_range T1 [] [] 500
  rw [rng_all C 500 (by omega)] at HR1
  unfold RangeSaid ptrV at HR1
  have HR1 : Hid (Calls Try.prog 13 #[.pointer (some ⟨m.g, 0, none⟩), .string ⟨#[]⟩, .string ⟨#[]⟩, .int .i64 500] w1 fun e w' => ∃ v, e = .returned v ∧ Grow PrT 2 prCells w1.heap.size v C w' ∧ Below w1.heap.size w1 w') := Lib.hid HR1
  have HT1 := Lib.hid (And.intro T1 b1)
  have HSo := Lib.hid hs
  clear T1 b1 HD
  go_upto_region 3 with (go_at_call 13; (with_reducible refine HR1.out.mono ?_); rintro e w2 ⟨v2, rfl, hG2, hb2⟩)
  obtain ⟨la, lc, hv2⟩ := hG2.slice
  rw [hv2] at hG2
  subst hv2
  have T2 := HT1.out.1.grew hb2
  have HB2 := Lib.hid (HT1.out.2.trans (hb2.mono HT1.out.2.size))
  have HR3 := tree_range T2 fr tk 500
  rw [rng_filter hs fr tk (by omega)] at HR3
  unfold RangeSaid ptrV at HR3
  have HR3 := Lib.hid HR3
  have HT2 := Lib.hid (And.intro T2 hG2)
  clear T2 hG2 hb2 HT1 hs HR1
  go_upto_region 4 with (go_at_call 13; (with_reducible refine HR3.out.mono ?_); rintro e w3 ⟨v3, rfl, hG3, hb3⟩)
  obtain ⟨X, hX⟩ : ∃ X, X = C.filter (inR fr tk) := ⟨_, rfl⟩
  rw [← hX] at hG3
  obtain ⟨xa, xc, hv3⟩ := hG3.slice
  rw [hv3] at hG3
  subst hv3
  have HGL := Lib.hid (row_get (HT2.out.2.below hb3)).2
  have HGX := Lib.hid (row_get hG3).2
  have HT3 := Lib.hid (HT2.out.1.grew hb3)
  have HB3 := Lib.hid (HB2.out.trans (hb3.mono HB2.out.size))
  have HX := Lib.hid hX
  have hXl : X.length ≤ C.length := by rw [hX]; exact List.length_filter_le _ _
  clear hG3 hb3 HT2 HB2 HR3 hX
  go_wp2
  go_loopg [10, 11] C.length (fun gk v10 v11 wr => ∃ (i many : Nat), v11 = .int .i64 (i : Int) ∧ v10 = .int .i64 (many : Int) ∧ i + gk = C.length ∧ Hid (many = ((C.take i).filter (inR fr tk)).length) ∧ many ≤ X.length ∧ Hid (Below w3.heap.size w3 wr))
  case atStart => exact ⟨0, 0, rfl, rfl, by omega, Lib.hid rfl, by omega, Lib.hid (Below.refl _ _)⟩
  case round =>
    obtain ⟨i, many, rfl, rfl, hi, HMany, hmx, HB⟩ := hrel
    by_cases hlt : i < C.length
    · obtain ⟨lb, rfl, k0, k1⟩ := HGL.out i hlt
      obtain ⟨hnum, hhas⟩ := get_here HSo.out i hlt
      have HGet := tree_get (HT3.out.grew HB.out) (C[i]).1
      rw [hnum, hhas] at HGet
      unfold ptrV at HGet
      have hst := filter_step (inR fr tk) C i hlt
      have hfa := filter_at (inR fr tk) C i hlt
      rw [← HX.out] at hfa
      rw [← HMany.out] at hfa
      have hch : ∀ h0 : 0 < i, kLt (C[i - 1]'(by omega)).1 (C[i]).1 = true := fun h0 => List.pairwise_iff_getElem.1 HSo.out (i - 1) i (by omega) hlt (by omega)
      have hlb : lb < w3.heap.size := block_lt_of_cell k1
      have k0 := Grew.cell HB.out k0
      have k1 := Grew.cell HB.out k1
      have hil : (i : Int) < (C.length : Int) := by omega
      have hi4 : (i : Int) ≤ 400 := by omega
      have hm4 : (many : Int) ≤ 400 := by omega
      generalize hx : C[i] = x at *
      have HGet := Lib.hid HGet
      have HSt := Lib.hid hst
      have HFa := Lib.hid hfa
      have e0 : ((x.2 : Int) == x.2) = true := beq_self_eq_true _
      have e1 : ((x.2 : Int) != x.2) = false := by simp
      clear hst hfa hnum hhas hx
      rcases Nat.eq_zero_or_pos i with hz | hpos
      · subst hz
        clear hch
        go_upto_region 9 with (go_at_call 19; (with_reducible refine HGet.out.mono ?_); rintro e w4 ⟨rfl, hb4⟩)
        have k0 := Grew.cell hb4 k0
        have k1 := Grew.cell hb4 k1
        have HB4 := Lib.hid (HB.out.trans (hb4.mono HB.out.size))
        clear hb4
        go_quiet (fail)
        have HB5 := Lib.hid (HB4.out.trans (drewN_below w4 nq HB4.out.size))
        have k0 := Grew.cell (drewN_below w4 nq (Nat.le_refl _)) k0
        have k1 := Grew.cell (drewN_below w4 nq (Nat.le_refl _)) k1
        clear HB4
        generalize w4.drewN nq = w5 at *
        go_upto_region 11 with (fail)
        by_cases hf1 : kLt x.1 fr = true
        · have HI : Hid (inR fr tk x = false) := Lib.hid (by unfold inR; rw [hf1]; rfl)
          have f2 : Op.bytesLess (bs x.1).toList (bs fr).toList = true := by rw [bs_toList, bs_toList]; exact hf1
          clear hf1
          go_wp2
          go_roundg (gk - 1)
          case rel => exact ⟨1, many, by go_num, rfl, by omega, Lib.hid (by rw [HSt.out, HI.out, HMany.out]; simp), hmx, HB5⟩
          case measure => omega
        · rw [Bool.not_eq_true] at hf1
          have f2 : Op.bytesLess (bs x.1).toList (bs fr).toList = false := by rw [bs_toList, bs_toList]; exact hf1
          cases tk with
          | nil =>
            have t0 : (bs []).toList = [] := bs_toList []
            have t1 : (bs []).toList.isEmpty = true := by rw [t0]; rfl
            have HI : Hid (inR fr [] x = true) := Lib.hid (by unfold inR; rw [hf1]; rfl)
            clear hf1
            obtain ⟨hm1, hm2⟩ := HFa.out HI.out
            obtain ⟨xb, rfl, q0, q1⟩ := HGX.out many hm1
            rw [hm2] at q0 q1
            have q0 := Grew.cell HB5.out q0
            have q1 := Grew.cell HB5.out q1
            have hmi : (many : Int) < (X.length : Int) := by omega
            have dmi : decide ((many : Int) < (X.length : Int)) = true := decide_eq_true hmi
            have dge : decide ((X.length : Int) ≤ (many : Int)) = false := decide_eq_false (by omega)
            have s0 : ((bs x.1).toList == (bs x.1).toList) = true := beq_self_eq_true _
            clear hm2
            go_upto_region 12 with (fail)
            go_quiet (fail)
            have HB6 := Lib.hid (HB5.out.trans (drewN_below w5 nq HB5.out.size))
            go_wp2
            go_roundg (gk - 1)
            case rel => exact ⟨1, many + 1, by go_num, by go_num, by omega, Lib.hid (by rw [HSt.out, HI.out, HMany.out]; simp), by omega, HB6⟩
            case measure => omega
          | cons c0 c1 =>
            have t1 : (bs (c0 :: c1)).toList.isEmpty = false := by rw [bs_toList]; rfl
            have t0 : ¬ (bs (c0 :: c1)).toList = [] := by rw [bs_toList]; simp
            by_cases hf2 : kLt x.1 (c0 :: c1) = true
            · have t3 : Op.bytesLess (bs x.1).toList (bs (c0 :: c1)).toList = true := by rw [bs_toList, bs_toList]; exact hf2
              have HI : Hid (inR fr (c0 :: c1) x = true) := Lib.hid (by unfold inR okTo; rw [hf1, hf2]; rfl)
              clear hf1 hf2
              obtain ⟨hm1, hm2⟩ := HFa.out HI.out
              obtain ⟨xb, rfl, q0, q1⟩ := HGX.out many hm1
              rw [hm2] at q0 q1
              have q0 := Grew.cell HB5.out q0
              have q1 := Grew.cell HB5.out q1
              have hmi : (many : Int) < (X.length : Int) := by omega
              have dmi : decide ((many : Int) < (X.length : Int)) = true := decide_eq_true hmi
              have dge : decide ((X.length : Int) ≤ (many : Int)) = false := decide_eq_false (by omega)
              have s0 : ((bs x.1).toList == (bs x.1).toList) = true := beq_self_eq_true _
              clear hm2
              go_upto_region 12 with (fail)
              go_quiet (fail)
              have HB6 := Lib.hid (HB5.out.trans (drewN_below w5 nq HB5.out.size))
              go_wp2
              go_roundg (gk - 1)
              case rel => exact ⟨1, many + 1, by go_num, by go_num, by omega, Lib.hid (by rw [HSt.out, HI.out, HMany.out]; simp), by omega, HB6⟩
              case measure => omega
            · rw [Bool.not_eq_true] at hf2
              have t3 : Op.bytesLess (bs x.1).toList (bs (c0 :: c1)).toList = false := by rw [bs_toList, bs_toList]; exact hf2
              have HI : Hid (inR fr (c0 :: c1) x = false) := Lib.hid (by unfold inR okTo; rw [hf1, hf2]; rfl)
              clear hf1 hf2
              go_wp2
              go_roundg (gk - 1)
              case rel => exact ⟨1, many, by go_num, rfl, by omega, Lib.hid (by rw [HSt.out, HI.out, HMany.out]; simp), hmx, HB5⟩
              case measure => omega
      · have hch := hch hpos
        obtain ⟨lb', hlb', k2, k3⟩ := HGL.out (i - 1) (by omega)
        simp only [Option.some.injEq, Addr.mk.injEq, and_true] at hlb'
        subst hlb'
        have k2 := Grew.cell HB.out k2
        have hle : Op.bytesLess (bs x.1).toList (bs (C[i - 1]'(by omega)).1).toList = false := by rw [bs_toList, bs_toList]; exact kLt_asymm hch
        have hle2 : ((bs x.1).toList == (bs (C[i - 1]'(by omega)).1).toList) = false := by rw [bs_toList, bs_toList]; exact beq_eq_false_iff_ne.2 (Ne.symm (kLt_ne hch))
        generalize (C[i - 1]'(by omega)) = y at *
        have hpi : (0 : Int) < (i : Int) := by omega
        have hw : IntKind.i64.wrap ((i : Int) - 1) = (i : Int) - 1 := IntWalk.i64_in _ (by omega)
        have h01 : (0 : Int) ≤ (i : Int) - 1 := by omega
        have h02 : (i : Int) - 1 < (C.length : Int) := by omega
        have ht1 : ((i : Int) - 1).toNat = i - 1 := by omega
        have hj : i - 1 < C.length := by omega
        have dk0 : decide (0 < i) = true := decide_eq_true hpos
        have dk1 : decide ((0 : Int) ≤ (i : Int) - 1) = true := decide_eq_true h01
        have dk2 : decide ((i : Int) - 1 < (C.length : Int)) = true := decide_eq_true h02
        clear hch k3
        go_upto_region 9 with (go_at_call 19; (with_reducible refine HGet.out.mono ?_); rintro e w4 ⟨rfl, hb4⟩)
        have k0 := Grew.cell hb4 k0
        have k1 := Grew.cell hb4 k1
        have k2 := Grew.cell hb4 k2
        have HB4 := Lib.hid (HB.out.trans (hb4.mono HB.out.size))
        clear hb4
        go_quiet (fail)
        have HB5 := Lib.hid (HB4.out.trans (drewN_below w4 nq HB4.out.size))
        have k0 := Grew.cell (drewN_below w4 nq (Nat.le_refl _)) k0
        have k1 := Grew.cell (drewN_below w4 nq (Nat.le_refl _)) k1
        clear HB4
        generalize w4.drewN nq = w5 at *
        go_upto_region 11 with (fail)
        by_cases hf1 : kLt x.1 fr = true
        · have HI : Hid (inR fr tk x = false) := Lib.hid (by unfold inR; rw [hf1]; rfl)
          have f2 : Op.bytesLess (bs x.1).toList (bs fr).toList = true := by rw [bs_toList, bs_toList]; exact hf1
          clear hf1
          go_wp2
          go_roundg (gk - 1)
          case rel => exact ⟨i + 1, many, by go_num, rfl, by omega, Lib.hid (by rw [HSt.out, HI.out, HMany.out]; simp), hmx, HB5⟩
          case measure => omega
        · rw [Bool.not_eq_true] at hf1
          have f2 : Op.bytesLess (bs x.1).toList (bs fr).toList = false := by rw [bs_toList, bs_toList]; exact hf1
          cases tk with
          | nil =>
            have t0 : (bs []).toList = [] := bs_toList []
            have t1 : (bs []).toList.isEmpty = true := by rw [t0]; rfl
            have HI : Hid (inR fr [] x = true) := Lib.hid (by unfold inR; rw [hf1]; rfl)
            clear hf1
            obtain ⟨hm1, hm2⟩ := HFa.out HI.out
            obtain ⟨xb, rfl, q0, q1⟩ := HGX.out many hm1
            rw [hm2] at q0 q1
            have q0 := Grew.cell HB5.out q0
            have q1 := Grew.cell HB5.out q1
            have hmi : (many : Int) < (X.length : Int) := by omega
            have dmi : decide ((many : Int) < (X.length : Int)) = true := decide_eq_true hmi
            have dge : decide ((X.length : Int) ≤ (many : Int)) = false := decide_eq_false (by omega)
            have s0 : ((bs x.1).toList == (bs x.1).toList) = true := beq_self_eq_true _
            clear hm2
            go_upto_region 12 with (fail)
            go_quiet (fail)
            have HB6 := Lib.hid (HB5.out.trans (drewN_below w5 nq HB5.out.size))
            go_wp2
            go_roundg (gk - 1)
            case rel => exact ⟨i + 1, many + 1, by go_num, by go_num, by omega, Lib.hid (by rw [HSt.out, HI.out, HMany.out]; simp), by omega, HB6⟩
            case measure => omega
          | cons c0 c1 =>
            have t1 : (bs (c0 :: c1)).toList.isEmpty = false := by rw [bs_toList]; rfl
            have t0 : ¬ (bs (c0 :: c1)).toList = [] := by rw [bs_toList]; simp
            by_cases hf2 : kLt x.1 (c0 :: c1) = true
            · have t3 : Op.bytesLess (bs x.1).toList (bs (c0 :: c1)).toList = true := by rw [bs_toList, bs_toList]; exact hf2
              have HI : Hid (inR fr (c0 :: c1) x = true) := Lib.hid (by unfold inR okTo; rw [hf1, hf2]; rfl)
              clear hf1 hf2
              obtain ⟨hm1, hm2⟩ := HFa.out HI.out
              obtain ⟨xb, rfl, q0, q1⟩ := HGX.out many hm1
              rw [hm2] at q0 q1
              have q0 := Grew.cell HB5.out q0
              have q1 := Grew.cell HB5.out q1
              have hmi : (many : Int) < (X.length : Int) := by omega
              have dmi : decide ((many : Int) < (X.length : Int)) = true := decide_eq_true hmi
              have dge : decide ((X.length : Int) ≤ (many : Int)) = false := decide_eq_false (by omega)
              have s0 : ((bs x.1).toList == (bs x.1).toList) = true := beq_self_eq_true _
              clear hm2
              go_upto_region 12 with (fail)
              go_quiet (fail)
              have HB6 := Lib.hid (HB5.out.trans (drewN_below w5 nq HB5.out.size))
              go_wp2
              go_roundg (gk - 1)
              case rel => exact ⟨i + 1, many + 1, by go_num, by go_num, by omega, Lib.hid (by rw [HSt.out, HI.out, HMany.out]; simp), by omega, HB6⟩
              case measure => omega
            · rw [Bool.not_eq_true] at hf2
              have t3 : Op.bytesLess (bs x.1).toList (bs (c0 :: c1)).toList = false := by rw [bs_toList, bs_toList]; exact hf2
              have HI : Hid (inR fr (c0 :: c1) x = false) := Lib.hid (by unfold inR okTo; rw [hf1, hf2]; rfl)
              clear hf1 hf2
              go_wp2
              go_roundg (gk - 1)
              case rel => exact ⟨i + 1, many, by go_num, rfl, by omega, Lib.hid (by rw [HSt.out, HI.out, HMany.out]; simp), hmx, HB5⟩
              case measure => omega
    · obtain rfl : i = C.length := by omega
      have HL := Lib.hid (tree_len (HT3.out.grew HB.out))
      unfold ptrV at HL
      have hmm : many = X.length := by rw [HMany.out, HX.out, List.take_of_length_le (Nat.le_refl _)]
      have HBw := Lib.hid (HB3.out.trans (HB.out.mono HB3.out.size))
      subst hmm
      go_wp2_with (first
        | (go_at_call 20; (with_reducible refine HL.out.mono ?_); rintro e w' ⟨rfl, rfl⟩)
        | (go_at_call 14; (with_reducible refine (HAw.out _).mono ?_); rintro e w9 ⟨rfl, hb9⟩))
      go_ret
      exact ⟨rfl, HBw.out.trans (hb9.mono HBw.out.size)⟩
/-- THE LAW IndexSorts. -/
theorem indexSorts_walk (W : World) (v : Value) (fs ts : ByteArray) (h : IsIops W v) (_ : fs.size ≤ maxLen) (_ : ts.size ≤ maxLen) :
    Calls Try.prog 5 #[v, .string fs, .string ts] W fun e w' => e = .returned (.bool true) ∧ Below W.heap.size W w' := by
  obtain ⟨L, a, cap, rfl, l1, l2, hL, _⟩ := h
  obtain ⟨k, rfl⟩ : ∃ k, fs = bs k := ⟨fs.data.toList, (bs_of fs).symm⟩
  obtain ⟨tk, rfl⟩ : ∃ k, ts = bs k := ⟨ts.data.toList, (bs_of ts).symm⟩
  unfold maxLen at l2
  exact sorts_law L a cap k tk W (by omega) hL
end Go.Proofs.Yteoibolompiohaa
