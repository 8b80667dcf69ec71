/- The walk of done. Conditions: as each theorem says. -/
import Derived.Test.YteoibolompiohaaIdxSf
namespace Go.Proofs.Yteoibolompiohaa
open Go.RowKit

def runC (L : List Opr) (i : Nat) : List Pr := (L.take i).foldl stepC []
theorem runC_succ (L : List Opr) (i : Nat) (h : i < L.length) : runC L (i + 1) = stepC (runC L i) L[i] := by unfold runC; rw [List.take_succ_eq_append_getElem h, List.foldl_append]; rfl
theorem runC_zero (L : List Opr) : runC L 0 = [] := rfl
/-- The calls in memory. -/
theorem ops_get {L : List Opr} {a : Option Addr} {n c : Nat} {w : World} (h : RowsAt 3 oprCells w (.slice a n c) L) (i : Nat) (hi : i < L.length) : ∃ b off, a = some ⟨b, off, none⟩ ∧ w.cell? ⟨b, off + i * 3, none⟩ = some (.int .i64 (L[i]).kind) ∧ w.cell? ⟨b, off + i * 3 + 1, none⟩ = some (.string (bs (L[i]).key)) ∧ w.cell? ⟨b, off + i * 3 + 2, none⟩ = some (.int .i64 (L[i]).n) := by
  obtain ⟨b, off, e, hr⟩ := RowsAt.get h i hi
  have r0 := hr 0 _ rfl
  rw [Nat.add_zero] at r0
  exact ⟨b, off, e, r0, hr 1 _ rfl, hr 2 _ rfl⟩
def DoneGot (C : List Pr) (w : World) (e : Ending) (w' : World) : Prop := ∃ m, e = .returned (ptrV m.g) ∧ Tree w.heap.size 400 m C w' ∧ Below w.heap.size w w'
def DoneAt (w : World) (g : Nat) (i : Nat) (C : List Pr) (wr : World) : Prop := ∃ m, m.g = g ∧ Tree w.heap.size i m C wr ∧ Below w.heap.size w wr
set_option maxRecDepth 100000 in
set_option maxHeartbeats 2000000 in
theorem done_any (L : List Opr) (a : Option Addr) (c : Nat) (w : World) (hL : L.length ≤ 9223372036854775807) (h : RowsAt 3 oprCells w (.slice a L.length c) L) :
    Calls Try.prog 18 #[.slice a L.length c] w (DoneGot (runC L (min L.length 400)) w) := by
  have HO := Lib.hid h
  have HN := Lib.hid (new_any w)
  unfold NewSaid ptrV at HN
  obtain ⟨M, hM⟩ : ∃ M, M = min L.length 400 := ⟨_, rfl⟩
  have hM1 : M ≤ L.length := by omega
  have hM2 : M ≤ 400 := by omega
  have HM := Lib.hid hM
  rw [← hM]
  clear h hM
  go_enter Try.func18, Try.ntmps18
  go_upto_region 2 with (go_at_call 10; (with_reducible refine HN.out.mono ?_); rintro e w1 ⟨m1, rfl, T1, b1⟩)
  have H1 : Hid (DoneAt w m1.g 0 [] w1) := Lib.hid ⟨m1, rfl, T1, b1⟩
  obtain ⟨g1, hg1⟩ : ∃ g1, g1 = m1.g := ⟨_, rfl⟩
  rw [← hg1] at H1 ⊢
  clear T1 b1 hg1 HN
  go_wp2
  go_loopg [4] M (fun gk v4 wr => ∃ i : Nat, v4 = .int .i64 (i : Int) ∧ i + gk = M ∧ Hid (DoneAt w g1 i (runC L i) wr))
  case atStart => exact ⟨0, rfl, by omega, H1⟩
  case round =>
    obtain ⟨i, rfl, hi, HA⟩ := hrel
    obtain ⟨m, rfl, T, hB⟩ := HA.out
    by_cases hlt : i < M
    · have hiL : i < L.length := by omega
      obtain ⟨b, off, rfl, k0, k1, k2⟩ := ops_get HO.out i hiL
      have k0 := Grew.cell hB k0
      have k1 := Grew.cell hB k1
      have k2 := Grew.cell hB k2
      have hil : (i : Int) < (L.length : Int) := by omega
      have hi4 : (i : Int) < 400 := by omega
      have HK := Lib.hid (kind_any L[i] wr)
      have hrun := runC_succ L i hiL
      unfold stepC at hrun
      unfold oprV at HK
      obtain ⟨K, hK⟩ : ∃ K, K = kindI (L[i]).kind := ⟨_, rfl⟩
      rw [← hK] at HK hrun
      generalize L[i] = o at *
      obtain ⟨ky, hky⟩ : ∃ ky, ky = o.key := ⟨_, rfl⟩
      obtain ⟨nn, hnn⟩ : ∃ nn, nn = o.n := ⟨_, rfl⟩
      obtain ⟨kk, hkk⟩ : ∃ kk, kk = o.kind := ⟨_, rfl⟩
      simp only [← hky, ← hnn, ← hkk] at HK hrun k0 k1 k2
      generalize runC L i = C at *
      have HRun := Lib.hid hrun
      have HB := Lib.hid hB
      have HT := Lib.hid T
      clear hK hky hnn hkk hrun hB T HA
      by_cases h2 : K = 2
      · subst h2
        have HR2 : Hid (runC L (i + 1) = delF C ky) := Lib.hid (by rw [HRun.out, if_pos rfl])
        clear HRun
        have e2 : ((2 : Int) == 2) = true := rfl
        go_upto_region 8 with (go_at_call 24; (with_reducible refine HK.out.mono ?_); rintro e w2 ⟨rfl, hb2⟩)
        have k1 := Grew.cell hb2 k1
        have HS := Lib.hid (tree_del (HT.out.grew hb2) ky)
        unfold DelGot ptrV at HS
        have HB2 := Lib.hid (HB.out.trans (hb2.mono HB.out.size))
        go_wp2_with (go_at_call 22; (with_reducible refine HS.out.mono ?_); rintro e w3 ⟨m3, rfl, T3, u3⟩)
        have HN3 : Hid (DoneAt w m.g (i + 1) (runC L (i + 1)) w3) := Lib.hid ⟨m3, u3.g, by rw [HR2.out]; exact T3.up (by omega) (by omega), HB2.out.trans (u3.below HB2.out.size)⟩
        clear T3 u3 HS hb2
        go_roundg (gk - 1)
        case rel => exact ⟨i + 1, by go_num, by omega, HN3⟩
        case measure => omega
      · by_cases h3 : K = 3
        · subst h3
          have HR2 : Hid (runC L (i + 1) = C) := Lib.hid (by rw [HRun.out, if_neg (by omega), if_pos rfl])
          clear HRun
          have e2 : ((3 : Int) == 2) = false := rfl
          have e3 : ((3 : Int) == 3) = true := rfl
          go_upto_region 10 with (go_at_call 24; (with_reducible refine HK.out.mono ?_); rintro e w2 ⟨rfl, hb2⟩)
          have k1 := Grew.cell hb2 k1
          have T2 := HT.out.grew hb2
          have HS := Lib.hid (tree_get T2 ky)
          unfold ptrV at HS
          have HB2 := Lib.hid (HB.out.trans (hb2.mono HB.out.size))
          have HT2 := Lib.hid T2
          clear T2
          go_wp2_with (go_at_call 19; (with_reducible refine HS.out.mono ?_); rintro e w3 ⟨rfl, hb3⟩)
          have HN3 : Hid (DoneAt w m.g (i + 1) (runC L (i + 1)) w3) := Lib.hid ⟨m, rfl, by rw [HR2.out]; exact (HT2.out.grew hb3).up (by omega) (by omega), HB2.out.trans (hb3.mono HB2.out.size)⟩
          clear hb3 HS hb2
          go_roundg (gk - 1)
          case rel => exact ⟨i + 1, by go_num, by omega, HN3⟩
          case measure => omega
        · have e2 : (K == 2) = false := beq_eq_false_iff_ne.2 h2
          have e3 : (K == 3) = false := beq_eq_false_iff_ne.2 h3
          have HR2 : Hid (runC L (i + 1) = insF C ky nn) := Lib.hid (by rw [HRun.out, if_neg h2, if_neg h3])
          clear h2 h3
          go_upto_region 6 with (go_at_call 24; (with_reducible refine HK.out.mono ?_); rintro e w2 ⟨rfl, hb2⟩)
          have k1 := Grew.cell hb2 k1
          have k2 := Grew.cell hb2 k2
          have hb2d : Below wr.heap.size wr w2.drew := hb2.drew
          have HS := Lib.hid (tree_set (HT.out.grew hb2d) ky nn (by omega))
          have HLe := Lib.hid HT.out.len
          unfold SetGot ptrV at HS
          have HB2 := Lib.hid (HB.out.trans (hb2d.mono HB.out.size))
          clear hb2 hb2d
          go_region_with (go_at_call 21; (with_reducible refine HS.out.mono ?_); rintro e w3 ⟨m3, rfl, T3, u3⟩)
          all_goals
            have HN3 : Hid (DoneAt w m.g (i + 1) (runC L (i + 1)) w3) := Lib.hid ⟨m3, u3.g, by rw [HR2.out]; exact T3.up (by have := HLe.out; have := ins_short C ky nn; omega) (by omega), HB2.out.trans (u3.below HB2.out.size)⟩
            clear T3 u3
            go_wp2
            go_roundg (gk - 1)
            case rel => exact ⟨i + 1, by go_num, by omega, HN3⟩
            case measure => omega
    · obtain rfl : i = M := by omega
      have hor : L.length ≤ i ∨ i = 400 := by have := HM.out; omega
      have HD := Lib.hid (And.intro (T.up hM2 (by omega)) hB)
      clear T hB HA
      rcases hor with h0 | h0
      · have h1 : ¬ (i : Int) < (L.length : Int) := by omega
        clear h0
        go_wp2
        go_ret
        exact ⟨m, rfl, HD.out.1, HD.out.2⟩
      · subst h0
        have h1 : ¬ ((400 : Nat) : Int) < 400 := by omega
        go_wp2
        all_goals
          go_ret
          exact ⟨m, rfl, HD.out.1, HD.out.2⟩
end Go.Proofs.Yteoibolompiohaa
