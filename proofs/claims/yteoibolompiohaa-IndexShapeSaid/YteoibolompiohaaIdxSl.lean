/- The law IndexShape. Conditions: as each theorem says. -/
import Derived.Test.YteoibolompiohaaIdxSx
namespace Go.Proofs.Yteoibolompiohaa
open Go.RowKit

/-- What the loop keeps: the tree, and the most keys that it had. -/
def ShapeAt (w : World) (g most : Nat) (C : List Pr) (wr : World) : Prop := ∃ m, m.g = g ∧ Tree w.heap.size most m C wr ∧ Below w.heap.size w wr
theorem run_short (L : List Opr) : ∀ i, (runC L i).length ≤ i := by
  intro i
  induction i with
  | zero => rw [runC_zero]; simp
  | succ i ih =>
    by_cases hi : i < L.length
    · rw [runC_succ L i hi]
      unfold stepC
      split
      · rw [delF_length]; split <;> omega
      · split
        · omega
        · have := ins_short (runC L i) (L[i]).key (L[i]).n
          omega
    · unfold runC at ih ⊢
      rw [List.take_of_length_le (by omega)] at ih ⊢
      omega
theorem max_int (a b : Nat) : (if a < b then (b : Int) else (a : Int)) = ((max a b : Nat) : Int) := by split <;> omega
set_option maxRecDepth 100000 in
set_option maxHeartbeats 4000000 in
theorem shape_law (L : List Opr) (a : Option Addr) (c : Nat) (w : World) (hL : L.length ≤ 9223372036854775807) (h : RowsAt 3 oprCells w (.slice a L.length c) L) (hl : ∀ x ∈ L, x.key.length ≤ 1000000000000000000) :
    Calls Try.prog 8 #[.slice a L.length c] w fun e w' => e = .returned (.bool true) ∧ Below w.heap.size w w' := by
  have HO := Lib.hid h
  have HN := Lib.hid (new_any w)
  unfold NewSaid ptrV at HN
  have HAw := Lib.hid awake_any
  have HCk : Hid (∀ i, ∀ p ∈ runC L i, p.1.length ≤ 1000000000000000000) := Lib.hid (fun i p hp => by
    obtain ⟨x, hx, e⟩ := run_mem hp
    rw [e]
    exact hl x hx)
  obtain ⟨M, hM⟩ : ∃ M, M = min L.length 400 := ⟨_, rfl⟩
  have hM1 : M ≤ L.length := by omega
  have hM2 : M ≤ 400 := by omega
  have HM := Lib.hid hM
  clear h hM hl
  go_enter Try.func8, Try.ntmps8
  go_upto_region 2 with (go_at_call 10; (with_reducible refine HN.out.mono ?_); rintro e w1 ⟨m1, rfl, T1, b1⟩)
  have H1 : Hid (ShapeAt w m1.g 0 [] w1) := Lib.hid ⟨m1, rfl, T1, b1⟩
  obtain ⟨g1, hg1⟩ : ∃ g1, g1 = m1.g := ⟨_, rfl⟩
  rw [← hg1] at H1 ⊢
  clear T1 b1 hg1 HN
  go_wp2
  go_loopg [4, 5] M (fun gk v4 v5 wr => ∃ (most i : Nat), v4 = .int .i64 (most : Int) ∧ v5 = .int .i64 (i : Int) ∧ i + gk = M ∧ most ≤ i ∧ Hid (ShapeAt w g1 most (runC L i) wr))
  case atStart => exact ⟨0, 0, rfl, rfl, by omega, Nat.le_refl _, H1⟩
  case round =>
    obtain ⟨most, i, rfl, rfl, hi, hmi, HA⟩ := hrel
    obtain ⟨m, rfl, T, hB⟩ := HA.out
    by_cases hlt : i < M
    · have hiL : i < L.length := by omega
      obtain ⟨b, off, rfl, k0, k1, k2⟩ := ops_get HO.out i hiL
      have k0 := Grew.cell hB k0
      have k1 := Grew.cell hB k1
      have k2 := Grew.cell hB k2
      have hil : (i : Int) < (L.length : Int) := by omega
      have hi4 : (i : Int) < 400 := by omega
      have HK := Lib.hid (kind_any L[i] wr)
      have hrun := runC_succ L i hiL
      unfold stepC at hrun
      unfold oprV at HK
      obtain ⟨K, hK⟩ : ∃ K, K = kindI (L[i]).kind := ⟨_, rfl⟩
      rw [← hK] at HK hrun
      generalize L[i] = o at *
      obtain ⟨ky, hky⟩ : ∃ ky, ky = o.key := ⟨_, rfl⟩
      obtain ⟨nn, hnn⟩ : ∃ nn, nn = o.n := ⟨_, rfl⟩
      obtain ⟨kk, hkk⟩ : ∃ kk, kk = o.kind := ⟨_, rfl⟩
      simp only [← hky, ← hnn, ← hkk] at HK hrun k0 k1 k2
      generalize runC L i = C at *
      have HRun := Lib.hid hrun
      have HB := Lib.hid hB
      have HT := Lib.hid T
      clear hK hky hnn hkk hrun hB T HA
      by_cases h2 : K = 2
      · subst h2
        have HR2 : Hid (runC L (i + 1) = delF C ky) := Lib.hid (by rw [HRun.out, if_pos rfl])
        clear HRun
        have e2 : ((2 : Int) == 2) = true := rfl
        go_upto_region 9 with (go_at_call 24; (with_reducible refine HK.out.mono ?_); rintro e w2 ⟨rfl, hb2⟩)
        have k1 := Grew.cell hb2 k1
        have HS := Lib.hid (tree_del (HT.out.grew hb2) ky)
        unfold DelGot ptrV at HS
        have HB2 := Lib.hid (HB.out.trans (hb2.mono HB.out.size))
        have HLe := Lib.hid HT.out.len
        go_upto_region 12 with (go_at_call 22; (with_reducible refine HS.out.mono ?_); rintro e w3 ⟨m3, rfl, T3, u3⟩)
        have HN3 : Hid (∃ m', m'.g = m.g ∧ Tree w.heap.size (max most (runC L (i + 1)).length) m' (runC L (i + 1)) w3 ∧ Below w.heap.size w w3) := Lib.hid ⟨m3, u3.g, by rw [HR2.out]; exact T3.up (by omega) (by have := T3.len; have := HLe.out; omega), HB2.out.trans (u3.below HB2.out.size)⟩
        clear T3 u3 HS hb2 HR2 k1 k2 HLe
        obtain ⟨N, hN⟩ : ∃ N, N = (runC L (i + 1)).length := ⟨_, rfl⟩
        rw [← hN] at HN3
        have HKs := HCk.out (i + 1)
        have hNi : N ≤ i + 1 := by rw [hN]; exact run_short L (i + 1)
        have hNeq := hN
        generalize hCq : runC L (i + 1) = Cq at *
        have HNq := Lib.hid hNeq
        have HKs := Lib.hid HKs
        have HCq := Lib.hid hCq
        clear hN hNeq hCq
        obtain ⟨m', hg', T', B'⟩ := HN3.out
        have HLen := tree_len T'
        unfold ptrV at HLen
        rw [hg', ← HNq.out] at HLen
        have HLen := Lib.hid HLen
        have HNo := tree_nodes T'
        unfold NodesGot ptrV at HNo
        rw [hg', ← HNq.out] at HNo
        have HNo := Lib.hid HNo
        have HT' := Lib.hid (And.intro T' (And.intro hg' B'))
        clear T' hg' B' HN3
        obtain ⟨q, hq⟩ : ∃ q, q = max most N := ⟨_, rfl⟩
        have hq1 : (if most < N then (N : Int) else (most : Int)) = (q : Int) := by rw [hq]; exact max_int most N
        rw [← hq] at HT' HNo
        have hqi : q ≤ i + 1 := by omega
        clear hq
        go_upto_region 13 with (go_at_call 20; (with_reducible refine HLen.out.mono ?_); rintro e w' ⟨rfl, rfl⟩)
        go_upto_region 14 with (fail)
        go_upto_region 15 with (go_at_call 25; (with_reducible refine HNo.out.mono ?_); rintro e w4 ⟨used, all, rfl, n1, n2, n3, n4, hb4⟩)
        have HT4 := Lib.hid (And.intro (HT'.out.1.grew hb4) (And.intro HT'.out.2.1 (HT'.out.2.2.trans (hb4.mono HT'.out.2.2.size))))
        have HR := tree_right HT4.out.1 HKs.out
        unfold RightSaid ptrV at HR
        rw [HT4.out.2.1] at HR
        have HR := Lib.hid HR
        clear hb4 HT' HLen HNo
        have x1 : ¬ (used : Int) < 1 := by omega
        have x2 : ¬ (all : Int) < (used : Int) := by omega
        have y1 : IntKind.i64.wrap ((used : Int) - 1) = (used : Int) - 1 := IntWalk.i64_in _ (by omega)
        have y2 : IntKind.i64.wrap ((all : Int) - 1) = (all : Int) - 1 := IntWalk.i64_in _ (by omega)
        have y3 : IntKind.i64.wrap (4 * ((used : Int) - 1)) = 4 * ((used : Int) - 1) := IntWalk.i64_in _ (by omega)
        have y4 : IntKind.i64.wrap (4 * ((all : Int) - 1)) = 4 * ((all : Int) - 1) := IntWalk.i64_in _ (by omega)
        have x3 : ¬ (N : Int) < 4 * ((used : Int) - 1) := by omega
        have x4 : ¬ (q : Int) < 4 * ((all : Int) - 1) := by omega
        go_upto_region 19 with (go_at_call 23; (with_reducible refine HR.out.mono ?_); rintro e w5 ⟨rfl, hb5⟩)
        have HT5 := Lib.hid (And.intro (HT4.out.1.grew hb5) (And.intro HT4.out.2.1 (HT4.out.2.2.trans (hb5.mono HT4.out.2.2.size))))
        clear hb5 HT4 HR x1 x2 x3 x4 y1 y2 y3 y4 n1 n2 n3 n4
        obtain ⟨d, hd3, hd1, hd2, HDe⟩ := tree_depth_of HT5.out.1
        unfold ptrV at HDe
        rw [HT5.out.2.1] at HDe
        rw [← HNq.out] at hd1 hd2
        have HDe := Lib.hid HDe
        have HP := Lib.hid (And.intro hd1 hd2)
        clear hd1 hd2
        obtain ⟨D, hD⟩ : ∃ D, D = d + 1 := ⟨_, rfl⟩
        rw [← hD] at HDe
        have hD1 : D ≤ d + 1 := by omega
        have hD2 : d + 1 ≤ D := by omega
        clear hD
        go_wp2_with (go_at_call 26; (with_reducible refine HDe.out.mono ?_); rintro e w' ⟨rfl, rfl⟩)
        go_loopg [9, 10, 11] d (fun gk2 v9 v10 v11 wr2 => wr2 = w5 ∧ ∃ (f g : Nat), v9 = .int .i64 (f : Int) ∧ v10 = .int .i64 (g : Int) ∧ v11 = .int .i64 ((gk2 : Int) + 1) ∧ gk2 ≤ d ∧ Hid (f = 5 ^ (d - gk2)) ∧ Hid (g = 10 ^ (d - gk2)))
        case atStart => exact ⟨rfl, 1, 1, rfl, rfl, by congr 1; omega, Nat.le_refl _, Lib.hid (by rw [Nat.sub_self]), Lib.hid (by rw [Nat.sub_self])⟩
        case round =>
          obtain ⟨rfl, f, g, rfl, rfl, rfl, hgd, HF, HG⟩ := hrel
          have hf : f ≤ 125 := by rw [HF.out]; exact Nat.le_trans (Nat.pow_le_pow_right (by decide) (show d - gk ≤ 3 by omega)) (by decide)
          have hg : g ≤ 1000 := by rw [HG.out]; exact Nat.le_trans (Nat.pow_le_pow_right (by decide) (show d - gk ≤ 3 by omega)) (by decide)
          have hf0 : 1 ≤ f := by rw [HF.out]; exact Nat.pow_pos (by decide)
          have hg0 : 1 ≤ g := by rw [HG.out]; exact Nat.pow_pos (by decide)
          by_cases hk : gk = 0
          · subst hk
            have f1 : Hid (f = 5 ^ d) := HF
            have g1 : Hid (g = 10 ^ d) := HG
            have hP := HP.out
            rw [← f1.out, Nat.pow_succ, ← g1.out] at hP
            have x5 : ¬ (D : Int) < 1 := by omega
            have y5 : IntKind.i64.wrap (2 * (f : Int)) = 2 * (f : Int) := IntWalk.i64_in _ (by omega)
            have y6 : IntKind.i64.wrap (2 * (f : Int) - 1) = 2 * (f : Int) - 1 := IntWalk.i64_in _ (by omega)
            have y7 : IntKind.i64.wrap (10 * (g : Int)) = 10 * (g : Int) := IntWalk.i64_in _ (by omega)
            have y8 : IntKind.i64.wrap (10 * (g : Int) - 1) = 10 * (g : Int) - 1 := IntWalk.i64_in _ (by omega)
            have x6 : ¬ 10 * (g : Int) - 1 < (N : Int) := by omega
            have hend : Hid (ShapeAt w m.g q (runC L (i + 1)) wr) := Lib.hid ⟨m', HT5.out.2.1, by rw [HCq.out]; exact HT5.out.1, HT5.out.2.2⟩
            by_cases hd0 : d = 0
            · have x7 : ¬ (1 : Int) < (D : Int) := by omega
              clear hP f1 g1 hd0 HP HF HG
              go_wp2_with (go_at_call 26; (with_reducible refine HDe.out.mono ?_); rintro e w' ⟨rfl, rfl⟩)
              go_roundg (M - (i + 1))
              case rel => exact ⟨q, i + 1, rfl, by go_num, by omega, hqi, hend⟩
              case measure => omega
            · have x7 : (1 : Int) < (D : Int) := by omega
              have x8 : ¬ (N : Int) < 2 * (f : Int) - 1 := by have := hP.1 hd0; omega
              clear hP f1 g1 hd0 HP HF HG
              go_wp2_with (go_at_call 26; (with_reducible refine HDe.out.mono ?_); rintro e w' ⟨rfl, rfl⟩)
              go_roundg (M - (i + 1))
              case rel => exact ⟨q, i + 1, rfl, by go_num, by omega, hqi, hend⟩
              case measure => omega
          · have c1 : (1 : Int) < (gk : Int) + 1 := by omega
            have c2 : (gk : Int) + 1 < 20 := by omega
            have z1 : IntKind.i64.wrap (5 * (f : Int)) = ((5 * f : Nat) : Int) := by rw [IntWalk.i64_in _ (by omega)]; omega
            have z2 : IntKind.i64.wrap (10 * (g : Int)) = ((10 * g : Nat) : Int) := by rw [IntWalk.i64_in _ (by omega)]; omega
            have z3 : IntKind.i64.wrap ((gk : Int) + 1 - 1) = ((gk - 1 : Nat) : Int) + 1 := by rw [IntWalk.i64_in _ (by omega)]; omega
            go_wp2
            go_roundg (gk - 1)
            case rel => exact ⟨rfl, 5 * f, 10 * g, rfl, rfl, (by congr 1; omega), by omega, Lib.hid (by rw [HF.out, show d - (gk - 1) = (d - gk) + 1 by omega, Nat.pow_succ, Nat.mul_comm]), Lib.hid (by rw [HG.out, show d - (gk - 1) = (d - gk) + 1 by omega, Nat.pow_succ, Nat.mul_comm])⟩
            case measure => omega
      · by_cases h3 : K = 3
        · subst h3
          have HR2 : Hid (runC L (i + 1) = C) := Lib.hid (by rw [HRun.out, if_neg (by omega), if_pos rfl])
          clear HRun
          have e2 : ((3 : Int) == 2) = false := rfl
          have e3 : ((3 : Int) == 3) = true := rfl
          go_upto_region 11 with (go_at_call 24; (with_reducible refine HK.out.mono ?_); rintro e w2 ⟨rfl, hb2⟩)
          have k1 := Grew.cell hb2 k1
          have T2 := HT.out.grew hb2
          have HS := Lib.hid (tree_get T2 ky)
          unfold ptrV at HS
          have HB2 := Lib.hid (HB.out.trans (hb2.mono HB.out.size))
          have HT2 := Lib.hid T2
          have HLe := Lib.hid HT.out.len
          clear T2
          go_upto_region 12 with (go_at_call 19; (with_reducible refine HS.out.mono ?_); rintro e w3 ⟨rfl, hb3⟩)
          have HN3 : Hid (∃ m', m'.g = m.g ∧ Tree w.heap.size (max most (runC L (i + 1)).length) m' (runC L (i + 1)) w3 ∧ Below w.heap.size w w3) := Lib.hid ⟨m, rfl, by rw [HR2.out]; exact (HT2.out.grew hb3).up (by omega) (by have := HLe.out; omega), HB2.out.trans (hb3.mono HB2.out.size)⟩
          clear hb3 HS hb2 HR2 k1 k2 HLe
          obtain ⟨N, hN⟩ : ∃ N, N = (runC L (i + 1)).length := ⟨_, rfl⟩
          rw [← hN] at HN3
          have HKs := HCk.out (i + 1)
          have hNi : N ≤ i + 1 := by rw [hN]; exact run_short L (i + 1)
          have hNeq := hN
          generalize hCq : runC L (i + 1) = Cq at *
          have HNq := Lib.hid hNeq
          have HKs := Lib.hid HKs
          have HCq := Lib.hid hCq
          clear hN hNeq hCq
          obtain ⟨m', hg', T', B'⟩ := HN3.out
          have HLen := tree_len T'
          unfold ptrV at HLen
          rw [hg', ← HNq.out] at HLen
          have HLen := Lib.hid HLen
          have HNo := tree_nodes T'
          unfold NodesGot ptrV at HNo
          rw [hg', ← HNq.out] at HNo
          have HNo := Lib.hid HNo
          have HT' := Lib.hid (And.intro T' (And.intro hg' B'))
          clear T' hg' B' HN3
          obtain ⟨q, hq⟩ : ∃ q, q = max most N := ⟨_, rfl⟩
          have hq1 : (if most < N then (N : Int) else (most : Int)) = (q : Int) := by rw [hq]; exact max_int most N
          rw [← hq] at HT' HNo
          have hqi : q ≤ i + 1 := by omega
          clear hq
          go_upto_region 13 with (go_at_call 20; (with_reducible refine HLen.out.mono ?_); rintro e w' ⟨rfl, rfl⟩)
          go_upto_region 14 with (fail)
          go_upto_region 15 with (go_at_call 25; (with_reducible refine HNo.out.mono ?_); rintro e w4 ⟨used, all, rfl, n1, n2, n3, n4, hb4⟩)
          have HT4 := Lib.hid (And.intro (HT'.out.1.grew hb4) (And.intro HT'.out.2.1 (HT'.out.2.2.trans (hb4.mono HT'.out.2.2.size))))
          have HR := tree_right HT4.out.1 HKs.out
          unfold RightSaid ptrV at HR
          rw [HT4.out.2.1] at HR
          have HR := Lib.hid HR
          clear hb4 HT' HLen HNo
          have x1 : ¬ (used : Int) < 1 := by omega
          have x2 : ¬ (all : Int) < (used : Int) := by omega
          have y1 : IntKind.i64.wrap ((used : Int) - 1) = (used : Int) - 1 := IntWalk.i64_in _ (by omega)
          have y2 : IntKind.i64.wrap ((all : Int) - 1) = (all : Int) - 1 := IntWalk.i64_in _ (by omega)
          have y3 : IntKind.i64.wrap (4 * ((used : Int) - 1)) = 4 * ((used : Int) - 1) := IntWalk.i64_in _ (by omega)
          have y4 : IntKind.i64.wrap (4 * ((all : Int) - 1)) = 4 * ((all : Int) - 1) := IntWalk.i64_in _ (by omega)
          have x3 : ¬ (N : Int) < 4 * ((used : Int) - 1) := by omega
          have x4 : ¬ (q : Int) < 4 * ((all : Int) - 1) := by omega
          go_upto_region 19 with (go_at_call 23; (with_reducible refine HR.out.mono ?_); rintro e w5 ⟨rfl, hb5⟩)
          have HT5 := Lib.hid (And.intro (HT4.out.1.grew hb5) (And.intro HT4.out.2.1 (HT4.out.2.2.trans (hb5.mono HT4.out.2.2.size))))
          clear hb5 HT4 HR x1 x2 x3 x4 y1 y2 y3 y4 n1 n2 n3 n4
          obtain ⟨d, hd3, hd1, hd2, HDe⟩ := tree_depth_of HT5.out.1
          unfold ptrV at HDe
          rw [HT5.out.2.1] at HDe
          rw [← HNq.out] at hd1 hd2
          have HDe := Lib.hid HDe
          have HP := Lib.hid (And.intro hd1 hd2)
          clear hd1 hd2
          obtain ⟨D, hD⟩ : ∃ D, D = d + 1 := ⟨_, rfl⟩
          rw [← hD] at HDe
          have hD1 : D ≤ d + 1 := by omega
          have hD2 : d + 1 ≤ D := by omega
          clear hD
          go_wp2_with (go_at_call 26; (with_reducible refine HDe.out.mono ?_); rintro e w' ⟨rfl, rfl⟩)
          go_loopg [9, 10, 11] d (fun gk2 v9 v10 v11 wr2 => wr2 = w5 ∧ ∃ (f g : Nat), v9 = .int .i64 (f : Int) ∧ v10 = .int .i64 (g : Int) ∧ v11 = .int .i64 ((gk2 : Int) + 1) ∧ gk2 ≤ d ∧ Hid (f = 5 ^ (d - gk2)) ∧ Hid (g = 10 ^ (d - gk2)))
          case atStart => exact ⟨rfl, 1, 1, rfl, rfl, by congr 1; omega, Nat.le_refl _, Lib.hid (by rw [Nat.sub_self]), Lib.hid (by rw [Nat.sub_self])⟩
          case round =>
            obtain ⟨rfl, f, g, rfl, rfl, rfl, hgd, HF, HG⟩ := hrel
            have hf : f ≤ 125 := by rw [HF.out]; exact Nat.le_trans (Nat.pow_le_pow_right (by decide) (show d - gk ≤ 3 by omega)) (by decide)
            have hg : g ≤ 1000 := by rw [HG.out]; exact Nat.le_trans (Nat.pow_le_pow_right (by decide) (show d - gk ≤ 3 by omega)) (by decide)
            have hf0 : 1 ≤ f := by rw [HF.out]; exact Nat.pow_pos (by decide)
            have hg0 : 1 ≤ g := by rw [HG.out]; exact Nat.pow_pos (by decide)
            by_cases hk : gk = 0
            · subst hk
              have f1 : Hid (f = 5 ^ d) := HF
              have g1 : Hid (g = 10 ^ d) := HG
              have hP := HP.out
              rw [← f1.out, Nat.pow_succ, ← g1.out] at hP
              have x5 : ¬ (D : Int) < 1 := by omega
              have y5 : IntKind.i64.wrap (2 * (f : Int)) = 2 * (f : Int) := IntWalk.i64_in _ (by omega)
              have y6 : IntKind.i64.wrap (2 * (f : Int) - 1) = 2 * (f : Int) - 1 := IntWalk.i64_in _ (by omega)
              have y7 : IntKind.i64.wrap (10 * (g : Int)) = 10 * (g : Int) := IntWalk.i64_in _ (by omega)
              have y8 : IntKind.i64.wrap (10 * (g : Int) - 1) = 10 * (g : Int) - 1 := IntWalk.i64_in _ (by omega)
              have x6 : ¬ 10 * (g : Int) - 1 < (N : Int) := by omega
              have hend : Hid (ShapeAt w m.g q (runC L (i + 1)) wr) := Lib.hid ⟨m', HT5.out.2.1, by rw [HCq.out]; exact HT5.out.1, HT5.out.2.2⟩
              by_cases hd0 : d = 0
              · have x7 : ¬ (1 : Int) < (D : Int) := by omega
                clear hP f1 g1 hd0 HP HF HG
                go_wp2_with (go_at_call 26; (with_reducible refine HDe.out.mono ?_); rintro e w' ⟨rfl, rfl⟩)
                go_roundg (M - (i + 1))
                case rel => exact ⟨q, i + 1, rfl, by go_num, by omega, hqi, hend⟩
                case measure => omega
              · have x7 : (1 : Int) < (D : Int) := by omega
                have x8 : ¬ (N : Int) < 2 * (f : Int) - 1 := by have := hP.1 hd0; omega
                clear hP f1 g1 hd0 HP HF HG
                go_wp2_with (go_at_call 26; (with_reducible refine HDe.out.mono ?_); rintro e w' ⟨rfl, rfl⟩)
                go_roundg (M - (i + 1))
                case rel => exact ⟨q, i + 1, rfl, by go_num, by omega, hqi, hend⟩
                case measure => omega
            · have c1 : (1 : Int) < (gk : Int) + 1 := by omega
              have c2 : (gk : Int) + 1 < 20 := by omega
              have z1 : IntKind.i64.wrap (5 * (f : Int)) = ((5 * f : Nat) : Int) := by rw [IntWalk.i64_in _ (by omega)]; omega
              have z2 : IntKind.i64.wrap (10 * (g : Int)) = ((10 * g : Nat) : Int) := by rw [IntWalk.i64_in _ (by omega)]; omega
              have z3 : IntKind.i64.wrap ((gk : Int) + 1 - 1) = ((gk - 1 : Nat) : Int) + 1 := by rw [IntWalk.i64_in _ (by omega)]; omega
              go_wp2
              go_roundg (gk - 1)
              case rel => exact ⟨rfl, 5 * f, 10 * g, rfl, rfl, (by congr 1; omega), by omega, Lib.hid (by rw [HF.out, show d - (gk - 1) = (d - gk) + 1 by omega, Nat.pow_succ, Nat.mul_comm]), Lib.hid (by rw [HG.out, show d - (gk - 1) = (d - gk) + 1 by omega, Nat.pow_succ, Nat.mul_comm])⟩
              case measure => omega
        · have e2 : (K == 2) = false := beq_eq_false_iff_ne.2 h2
          have e3 : (K == 3) = false := beq_eq_false_iff_ne.2 h3
          have HR2 : Hid (runC L (i + 1) = insF C ky nn) := Lib.hid (by rw [HRun.out, if_neg h2, if_neg h3])
          clear h2 h3
          go_upto_region 7 with (go_at_call 24; (with_reducible refine HK.out.mono ?_); rintro e w2 ⟨rfl, hb2⟩)
          have k1 := Grew.cell hb2 k1
          have k2 := Grew.cell hb2 k2
          have hb2d : Below wr.heap.size wr w2.drew := hb2.drew
          have HS := Lib.hid (tree_set (HT.out.grew hb2d) ky nn (by omega))
          unfold SetGot ptrV at HS
          have HB2 := Lib.hid (HB.out.trans (hb2d.mono HB.out.size))
          clear hb2 hb2d
          go_region_with (go_at_call 21; (with_reducible refine HS.out.mono ?_); rintro e w3 ⟨m3, rfl, T3, u3⟩)
          all_goals
            have HN3 : Hid (∃ m', m'.g = m.g ∧ Tree w.heap.size (max most (runC L (i + 1)).length) m' (runC L (i + 1)) w3 ∧ Below w.heap.size w w3) := Lib.hid ⟨m3, u3.g, by rw [HR2.out]; exact T3, HB2.out.trans (u3.below HB2.out.size)⟩
            clear T3 u3 HR2 k1 k2 HS
            obtain ⟨N, hN⟩ : ∃ N, N = (runC L (i + 1)).length := ⟨_, rfl⟩
            rw [← hN] at HN3
            have HKs := HCk.out (i + 1)
            have hNi : N ≤ i + 1 := by rw [hN]; exact run_short L (i + 1)
            have hNeq := hN
            generalize hCq : runC L (i + 1) = Cq at *
            have HNq := Lib.hid hNeq
            have HKs := Lib.hid HKs
            have HCq := Lib.hid hCq
            clear hN hNeq hCq
            obtain ⟨m', hg', T', B'⟩ := HN3.out
            have HLen := tree_len T'
            unfold ptrV at HLen
            rw [hg', ← HNq.out] at HLen
            have HLen := Lib.hid HLen
            have HNo := tree_nodes T'
            unfold NodesGot ptrV at HNo
            rw [hg', ← HNq.out] at HNo
            have HNo := Lib.hid HNo
            have HT' := Lib.hid (And.intro T' (And.intro hg' B'))
            clear T' hg' B' HN3
            obtain ⟨q, hq⟩ : ∃ q, q = max most N := ⟨_, rfl⟩
            have hq1 : (if most < N then (N : Int) else (most : Int)) = (q : Int) := by rw [hq]; exact max_int most N
            rw [← hq] at HT' HNo
            have hqi : q ≤ i + 1 := by omega
            clear hq
            go_upto_region 13 with (go_at_call 20; (with_reducible refine HLen.out.mono ?_); rintro e w' ⟨rfl, rfl⟩)
            go_upto_region 14 with (fail)
            go_upto_region 15 with (go_at_call 25; (with_reducible refine HNo.out.mono ?_); rintro e w4 ⟨used, all, rfl, n1, n2, n3, n4, hb4⟩)
            have HT4 := Lib.hid (And.intro (HT'.out.1.grew hb4) (And.intro HT'.out.2.1 (HT'.out.2.2.trans (hb4.mono HT'.out.2.2.size))))
            have HR := tree_right HT4.out.1 HKs.out
            unfold RightSaid ptrV at HR
            rw [HT4.out.2.1] at HR
            have HR := Lib.hid HR
            clear hb4 HT' HLen HNo
            have x1 : ¬ (used : Int) < 1 := by omega
            have x2 : ¬ (all : Int) < (used : Int) := by omega
            have y1 : IntKind.i64.wrap ((used : Int) - 1) = (used : Int) - 1 := IntWalk.i64_in _ (by omega)
            have y2 : IntKind.i64.wrap ((all : Int) - 1) = (all : Int) - 1 := IntWalk.i64_in _ (by omega)
            have y3 : IntKind.i64.wrap (4 * ((used : Int) - 1)) = 4 * ((used : Int) - 1) := IntWalk.i64_in _ (by omega)
            have y4 : IntKind.i64.wrap (4 * ((all : Int) - 1)) = 4 * ((all : Int) - 1) := IntWalk.i64_in _ (by omega)
            have x3 : ¬ (N : Int) < 4 * ((used : Int) - 1) := by omega
            have x4 : ¬ (q : Int) < 4 * ((all : Int) - 1) := by omega
            go_upto_region 19 with (go_at_call 23; (with_reducible refine HR.out.mono ?_); rintro e w5 ⟨rfl, hb5⟩)
            have HT5 := Lib.hid (And.intro (HT4.out.1.grew hb5) (And.intro HT4.out.2.1 (HT4.out.2.2.trans (hb5.mono HT4.out.2.2.size))))
            clear hb5 HT4 HR x1 x2 x3 x4 y1 y2 y3 y4 n1 n2 n3 n4
            obtain ⟨d, hd3, hd1, hd2, HDe⟩ := tree_depth_of HT5.out.1
            unfold ptrV at HDe
            rw [HT5.out.2.1] at HDe
            rw [← HNq.out] at hd1 hd2
            have HDe := Lib.hid HDe
            have HP := Lib.hid (And.intro hd1 hd2)
            clear hd1 hd2
            obtain ⟨D, hD⟩ : ∃ D, D = d + 1 := ⟨_, rfl⟩
            rw [← hD] at HDe
            have hD1 : D ≤ d + 1 := by omega
            have hD2 : d + 1 ≤ D := by omega
            clear hD
            go_wp2_with (go_at_call 26; (with_reducible refine HDe.out.mono ?_); rintro e w' ⟨rfl, rfl⟩)
            go_loopg [9, 10, 11] d (fun gk2 v9 v10 v11 wr2 => wr2 = w5 ∧ ∃ (f g : Nat), v9 = .int .i64 (f : Int) ∧ v10 = .int .i64 (g : Int) ∧ v11 = .int .i64 ((gk2 : Int) + 1) ∧ gk2 ≤ d ∧ Hid (f = 5 ^ (d - gk2)) ∧ Hid (g = 10 ^ (d - gk2)))
            case atStart => exact ⟨rfl, 1, 1, rfl, rfl, by congr 1; omega, Nat.le_refl _, Lib.hid (by rw [Nat.sub_self]), Lib.hid (by rw [Nat.sub_self])⟩
            case round =>
              obtain ⟨rfl, f, g, rfl, rfl, rfl, hgd, HF, HG⟩ := hrel
              have hf : f ≤ 125 := by rw [HF.out]; exact Nat.le_trans (Nat.pow_le_pow_right (by decide) (show d - gk ≤ 3 by omega)) (by decide)
              have hg : g ≤ 1000 := by rw [HG.out]; exact Nat.le_trans (Nat.pow_le_pow_right (by decide) (show d - gk ≤ 3 by omega)) (by decide)
              have hf0 : 1 ≤ f := by rw [HF.out]; exact Nat.pow_pos (by decide)
              have hg0 : 1 ≤ g := by rw [HG.out]; exact Nat.pow_pos (by decide)
              by_cases hk : gk = 0
              · subst hk
                have f1 : Hid (f = 5 ^ d) := HF
                have g1 : Hid (g = 10 ^ d) := HG
                have hP := HP.out
                rw [← f1.out, Nat.pow_succ, ← g1.out] at hP
                have x5 : ¬ (D : Int) < 1 := by omega
                have y5 : IntKind.i64.wrap (2 * (f : Int)) = 2 * (f : Int) := IntWalk.i64_in _ (by omega)
                have y6 : IntKind.i64.wrap (2 * (f : Int) - 1) = 2 * (f : Int) - 1 := IntWalk.i64_in _ (by omega)
                have y7 : IntKind.i64.wrap (10 * (g : Int)) = 10 * (g : Int) := IntWalk.i64_in _ (by omega)
                have y8 : IntKind.i64.wrap (10 * (g : Int) - 1) = 10 * (g : Int) - 1 := IntWalk.i64_in _ (by omega)
                have x6 : ¬ 10 * (g : Int) - 1 < (N : Int) := by omega
                have hend : Hid (ShapeAt w m.g q (runC L (i + 1)) wr) := Lib.hid ⟨m', HT5.out.2.1, by rw [HCq.out]; exact HT5.out.1, HT5.out.2.2⟩
                by_cases hd0 : d = 0
                · have x7 : ¬ (1 : Int) < (D : Int) := by omega
                  clear hP f1 g1 hd0 HP HF HG
                  go_wp2_with (go_at_call 26; (with_reducible refine HDe.out.mono ?_); rintro e w' ⟨rfl, rfl⟩)
                  go_roundg (M - (i + 1))
                  case rel => exact ⟨q, i + 1, rfl, by go_num, by omega, hqi, hend⟩
                  case measure => omega
                · have x7 : (1 : Int) < (D : Int) := by omega
                  have x8 : ¬ (N : Int) < 2 * (f : Int) - 1 := by have := hP.1 hd0; omega
                  clear hP f1 g1 hd0 HP HF HG
                  go_wp2_with (go_at_call 26; (with_reducible refine HDe.out.mono ?_); rintro e w' ⟨rfl, rfl⟩)
                  go_roundg (M - (i + 1))
                  case rel => exact ⟨q, i + 1, rfl, by go_num, by omega, hqi, hend⟩
                  case measure => omega
              · have c1 : (1 : Int) < (gk : Int) + 1 := by omega
                have c2 : (gk : Int) + 1 < 20 := by omega
                have z1 : IntKind.i64.wrap (5 * (f : Int)) = ((5 * f : Nat) : Int) := by rw [IntWalk.i64_in _ (by omega)]; omega
                have z2 : IntKind.i64.wrap (10 * (g : Int)) = ((10 * g : Nat) : Int) := by rw [IntWalk.i64_in _ (by omega)]; omega
                have z3 : IntKind.i64.wrap ((gk : Int) + 1 - 1) = ((gk - 1 : Nat) : Int) + 1 := by rw [IntWalk.i64_in _ (by omega)]; omega
                go_wp2
                go_roundg (gk - 1)
                case rel => exact ⟨rfl, 5 * f, 10 * g, rfl, rfl, (by congr 1; omega), by omega, Lib.hid (by rw [HF.out, show d - (gk - 1) = (d - gk) + 1 by omega, Nat.pow_succ, Nat.mul_comm]), Lib.hid (by rw [HG.out, show d - (gk - 1) = (d - gk) + 1 by omega, Nat.pow_succ, Nat.mul_comm])⟩
                case measure => omega
    · obtain rfl : i = M := by omega
      have hor : L.length ≤ i ∨ i = 400 := by have := HM.out; omega
      have HD := Lib.hid hB
      clear T hB HA
      rcases hor with h0 | h0
      · have h1 : ¬ (i : Int) < (L.length : Int) := by omega
        clear h0
        go_wp2_with (go_at_call 14; (with_reducible refine (HAw.out _).mono ?_); rintro e w12 ⟨rfl, hb12⟩)
        go_ret
        exact ⟨rfl, HD.out.trans (hb12.mono HD.out.size)⟩
      · subst h0
        have h1 : ¬ ((400 : Nat) : Int) < 400 := by omega
        go_wp2_with (go_at_call 14; (with_reducible refine (HAw.out _).mono ?_); rintro e w12 ⟨rfl, hb12⟩)
        all_goals
          go_ret
          exact ⟨rfl, HD.out.trans (hb12.mono HD.out.size)⟩
/-- THE LAW IndexShape. -/
theorem indexShape_walk (W : World) (v : Value) (h : IsIopsW W v) : Calls Try.prog 8 #[v] W fun e w' => e = .returned (.bool true) ∧ Below W.heap.size W w' := by
  obtain ⟨L, a, cap, rfl, l1, l2, hL, hl⟩ := h
  unfold maxLen at l2
  unfold reachBytes at hl
  exact shape_law L a cap W (by omega) hL (fun x hx => by have := hl x hx; omega)
end Go.Proofs.Yteoibolompiohaa
