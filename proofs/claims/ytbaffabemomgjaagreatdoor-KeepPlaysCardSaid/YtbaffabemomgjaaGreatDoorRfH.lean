/- The reference's disk: the walk of Crash. Conditions: as the theorem says. -/
import Derived.Test.YtbaffabemomgjaaGreatDoorRfG
namespace Go.Proofs.YtbaffabemomgjaaGreatDoor
open Go.RowKit

theorem crashK_at {M : Dir} (ks : List Int) (i : Nat) (hi : i < M.length) (h2 : i < (crashK M ks i).length) : (crashK M ks i)[i] = M[i] := by
  have e := crashK_split M ks i hi
  have hl : (crashM (M.take i) ks).length = i := by rw [crash_length, List.length_take]; omega
  simp only [e]
  rw [List.getElem_append_right (by omega)]
  simp [hl]
theorem drop_head (ks : List Int) (n : Nat) : (ks.drop n).headD 0 = ks.getD n 0 := by
  induction ks generalizing n with
  | nil => simp
  | cons a r ih => cases n with
    | zero => rfl
    | succ m => simp
section
variable {base g : Nat} {d : Dk} {w : World}
set_option maxRecDepth 100000 in
set_option maxHeartbeats 6400000 in
theorem rcrash_any (h : RdAt base g d w) (hf : d.fit) (hn : d.m.length < 800000) (kb : Nat) (z0 z1 : Int) (hk : BlkAt kb 3 [.int .i64 z0, .int .i64 z1] w) :
    Calls Tryz.prog 16 #[ptrV g, .slice (some ⟨kb, 0, none⟩) 2 2] w fun e w' => e = .returned (.tuple #[]) ∧ RdAt base g (crashD d [z0, z1]) w' ∧ Apart (Up base) w w' := by
  obtain ⟨a, cap, h⟩ := h
  have hle := h.le
  have H := Lib.hid h
  have HK := Lib.hid hk
  have HFit := Lib.hid hf
  have hkg : ∀ gb, a = some ⟨gb, 0, none⟩ → kb ≠ gb := by
    intro gb ha e
    subst ha
    rcases h.rows.2 with ⟨hv, _⟩ | ⟨gb2, c, cur, hv, _, hh, _⟩
    · simp at hv
    · have e2 : gb = gb2 := by simpa using (Value.slice.inj hv).1
      have hk' := hk
      unfold BlkAt at hk'
      rw [e, e2, hh] at hk'
      simp only [Option.some.injEq, Obj.cells.injEq] at hk'
      exact absurd hk'.2.1 (by decide)
  have HKg := Lib.hid hkg
  clear h hk hf hkg
  unfold ptrV
  go_enter Tryz.func16, Tryz.ntmps16
  go_wp2_with (fail)
  go_loopw [4, 5] (fun v4 v5 W => ∃ (i n : Nat), v5 = .int .i64 (i : Int) ∧ v4 = .int .i64 (n : Int) ∧ i ≤ d.m.length ∧ n ≤ i ∧ restI d.m [z0, z1] i = [z0, z1].drop n ∧ RdIn base g { d with m := crashK d.m [z0, z1] i } a cap W ∧ BlkAt kb 3 [.int .i64 z0, .int .i64 z1] W ∧ Apart (Up base) w W) (fun _ v5 _ => d.m.length - (intOf v5).toNat)
  case atStart => exact ⟨0, 0, rfl, rfl, by omega, by omega, rfl, by rw [(crashK_zero d.m [z0, z1]).1]; exact H.out, HK.out, up_refl⟩
  case round =>
    obtain ⟨i, n, rfl, rfl, hi, hni, hrest, hI, hkk, hA⟩ := hrel
    have HI := Lib.hid hI
    have HKk := Lib.hid hkk
    have HA := Lib.hid hA
    have HRest := Lib.hid hrest
    have hlen := crashK_length d.m [z0, z1] i
    have c0 := hI.blk.cell (i := 0) rfl
    simp only [hlen] at c0
    clear hI hkk hA hrest H HK
    by_cases hlt : i < d.m.length
    · have q0 : decide (i < d.m.length) = true := decide_eq_true hlt
      have i0 : (0 : Int) ≤ (i : Int) := by omega
      have i1 : (i : Int) < (d.m.length : Int) := by omega
      have hi2 : i < (crashK d.m [z0, z1] i).length := by omega
      obtain ⟨gb, rfl, hup, r0, r1, r2⟩ := HI.out.get i hi2
      have hkgb := HKg.out gb rfl
      have ex := crashK_at [z0, z1] i hlt hi2
      simp only at r0 r1 r2
      rw [ex] at r0 r1 r2
      have hsy := HFit.out.synced d.m[i] (List.getElem_mem _)
      have hpl : d.m[i].2.d.length ≤ total d.m := by
        have h1 := get_of_mem HFit.out.sorted (List.getElem_mem hlt : d.m[i] ∈ d.m)
        have h2 := size_le_total HFit.out.sorted d.m[i].1
        exact Nat.le_trans (Nat.le_of_eq (by rw [show getM d.m d.m[i].1 = some d.m[i].2 from h1]; rfl)) h2
      have hu := HFit.out.used
      have hhi := HFit.out.hi
      have hl := bs_size d.m[i].2.d
      have HS0 := Lib.hid (crashK_step0 (M := d.m) [z0, z1] i hlt)
      have HS1 : Hid (¬ (d.m[i].2.d.length : Int) - d.m[i].2.s = 0 → crashK d.m [z0, z1] (i + 1) = (crashK d.m [z0, z1] i).set i (d.m[i].1, keepF d.m[i].2 ([z0, z1].getD n 0)) ∧ restI d.m [z0, z1] (i + 1) = [z0, z1].drop (n + 1)) := Lib.hid (fun h0 => by
        obtain ⟨e1, e2⟩ := crashK_step1 HFit.out.sorted [z0, z1] i hlt h0
        refine ⟨?_, ?_⟩
        · rw [e1, HRest.out, drop_head]
          have := put_at (crashK_sorted HFit.out.sorted [z0, z1] i) i hi2 (keepF d.m[i].2 ([z0, z1].getD n 0))
          rw [ex] at this
          exact this.symm
        · rw [e2, HRest.out, List.tail_drop])
      have HEx := Lib.hid ex
      clear ex
      by_cases hm0 : (d.m[i].2.d.length : Int) - d.m[i].2.s = 0
      · as_aux_lemma =>
        obtain ⟨e1, e2⟩ := HS0.out hm0
        have HE1 := Lib.hid e1
        have HE2 := Lib.hid e2
        have q1 : ((d.m[i].2.d.length : Int) - d.m[i].2.s == 0) = true := by rw [beq_iff_eq]; exact hm0
        have hw7 : IntKind.i64.wrap ((d.m[i].2.d.length : Int) - d.m[i].2.s) = (d.m[i].2.d.length : Int) - d.m[i].2.s := IntWalk.i64_in _ (by omega)
        clear e1 e2 HS0 HS1 hm0 HEx
        generalize d.m[i] = x at *
        go_wp2_with (fail)
        go_quiet (fail)
        clear hw7
        go_wp2
        go_roundw
        case rel => exact ⟨i + 1, n, by go_num, rfl, by omega, by omega, by rw [HE2.out]; exact HRest.out, by rw [HE1.out]; exact HI.out.grew (below_drewN (Below.refl _ _) nq), HKk.out.grew (below_drewN (Below.refl _ _) nq), up_trans HA.out (up_below (below_drewN (Below.refl _ _) nq))⟩
        case measure => simp [intOf]; omega
      · obtain ⟨e1, e2⟩ := HS1.out hm0
        have HE1 := Lib.hid e1
        have HE2 := Lib.hid e2
        have q1 : ((d.m[i].2.d.length : Int) - d.m[i].2.s == 0) = false := by rw [beq_eq_false_iff_ne]; exact hm0
        have hw7 : IntKind.i64.wrap ((d.m[i].2.d.length : Int) - d.m[i].2.s) = (d.m[i].2.d.length : Int) - d.m[i].2.s := IntWalk.i64_in _ (by omega)
        have hmo : 0 < (d.m[i].2.d.length : Int) - d.m[i].2.s := by omega
        clear e1 e2 HS0 HS1 hm0
        generalize d.m[i] = x at *
        generalize crashK d.m [z0, z1] i = CK at *
        have hnn : n = 0 ∨ n = 1 ∨ 2 ≤ n := by omega
        rcases hnn with rfl | rfl | hn2
        · as_aux_lemma =>
          go_wp2_with (fail)
          go_quiet (fail)
          clear hw7
          have HI2 := Lib.hid (HI.out.grew (below_drewN (Below.refl _ _) nq))
          have HK2 := Lib.hid (HKk.out.grew (below_drewN (Below.refl _ _) nq))
          have HA2 := Lib.hid (up_trans HA.out (up_below (below_drewN (Below.refl _ _) nq)))
          generalize wr.drewN nq = w2 at *
          have k0 := HK2.out.cell (i := 0) rfl
          have c0 := HI2.out.blk.cell (i := 0) rfl
          go_wp2_with (fail)
          obtain ⟨K, hK⟩ : ∃ K : Int, K = min (max z0 0) ((x.2.d.length : Int) - x.2.s) := ⟨_, rfl⟩
          have hkeep : keepF x.2 ([z0, z1].getD 0 0) = ⟨x.2.d.take (x.2.s + K).toNat, x.2.s + K⟩ := by
            rw [hK]; rfl
          have hK0 : 0 ≤ K := by rw [hK]; omega
          have hK1 : K ≤ (x.2.d.length : Int) - x.2.s := by rw [hK]; omega
          rw [← hK]
          clear hK
          rw [hkeep] at HE1
          clear hkeep
          have hl2 : (CK.length : Nat) = d.m.length := hlen
          obtain ⟨gbx, hgx, _, r0, r1, r2⟩ := HI2.out.get i hi2
          have hgx : gb = gbx := by simpa using hgx
          subst hgx
          simp only at r0 r1 r2 c0
          rw [HEx.out] at r0 r1 r2
          rw [hl2] at c0
          have f2 := World.ownsRow.frozenAt HI2.out.rows (i * 3 + 2)
          have hw8 : IntKind.i64.wrap (x.2.s + K) = x.2.s + K := IntWalk.i64_in _ (by omega)
          obtain ⟨P1, P2⟩ := HI2.out.poke i hi2 2 (by omega) (.int .i64 (x.2.s + K)) (x.1, ⟨x.2.d, x.2.s + K⟩) (by show _ = (rfC CK[i]).set 2 _; rw [HEx.out]; rfl)
          have HP := Lib.hid (P1.grew (Below.refl _ _).drew)
          have HKp := Lib.hid ((HK2.out.drew : BlkAt kb _ _ w2.drew))
          have HK3 : Hid (BlkAt kb 3 [.int .i64 z0, .int .i64 z1] (w2.setCell ⟨gb, i * 3 + 2, none⟩ (.int .i64 (x.2.s + K))).drew) := Lib.hid (by
            have hb := HK2.out
            unfold BlkAt at hb ⊢
            rw [heap_drew, heap_setCell_other _ _ _ _ (fun e => hkgb (by simpa using e))]
            exact hb)
          have HA3 := Lib.hid (up_trans HA2.out (up_trans (up_grown (base := base) P2 (fun q hq => by have := Option.some.inj hq; omega)) (up_below (Below.refl _ (w2.setCell ⟨gb, i * 3 + 2, none⟩ (.int .i64 (x.2.s + K)))).drew)))
          clear P1 P2 HKp
          go_region
          clear hw8
          generalize (w2.setCell ⟨gb, i * 3 + 2, none⟩ (.int .i64 (x.2.s + K))).drew = w3 at *
          have hi3 : i < ((CK.set i (x.1, ⟨x.2.d, x.2.s + K⟩))).length := by rw [List.length_set]; exact hi2
          obtain ⟨gby, hgy, _, s0, s1, s2⟩ := HP.out.get i hi3
          have hgy : gb = gby := by simpa using hgy
          subst hgy
          simp only [List.getElem_set_self] at s0 s1 s2
          have c0 := HP.out.blk.cell (i := 0) rfl
          simp only [List.length_set] at c0
          rw [hl2] at c0
          have f1 := World.ownsRow.frozenAt HP.out.rows (i * 3 + 1)
          have hn0 : 0 ≤ x.2.s + K := by omega
          obtain ⟨m, hm⟩ : ∃ m : Nat, x.2.s + K = (m : Int) := ⟨(x.2.s + K).toNat, by omega⟩
          rw [hm] at s2 HE1 HP ⊢
          rw [Int.toNat_natCast] at HE1
          have hmle : m ≤ (bs x.2.d).size := by omega
          have hi4 : i < (CK.set i (x.1, ⟨x.2.d, (m : Int)⟩)).length := by rw [List.length_set]; exact hi2
          have hcut : (bs x.2.d).extract 0 m = bs (x.2.d.take m) := by rw [bs_extract]; simp
          obtain ⟨P1, P2⟩ := HP.out.poke i hi4 1 (by omega) (.string (bs (x.2.d.take m))) (x.1, ⟨x.2.d.take m, (m : Int)⟩) (by simp only [List.getElem_set_self]; rfl)
          have HP4 := Lib.hid (P1.grew (Below.refl _ _).drew)
          have HK4 : Hid (BlkAt kb 3 [.int .i64 z0, .int .i64 z1] (w3.setCell ⟨gb, i * 3 + 1, none⟩ (.string (bs (x.2.d.take m)))).drew) := Lib.hid (by
            have hb := HK3.out
            unfold BlkAt at hb ⊢
            rw [heap_drew, heap_setCell_other _ _ _ _ (fun e => hkgb (by simpa using e))]
            exact hb)
          have HA4 := Lib.hid (up_trans HA3.out (up_trans (up_grown (base := base) P2 (fun q hq => by have := Option.some.inj hq; omega)) (up_below (Below.refl _ (w3.setCell ⟨gb, i * 3 + 1, none⟩ (.string (bs (x.2.d.take m))))).drew)))
          clear P1 P2 HA3 HK3
          go_wp2_with (fail)
          go_region
          go_wp2
          go_roundw
          case rel => exact ⟨i + 1, 0 + 1, by go_num, by go_num, by omega, by omega, HE2.out, by rw [HE1.out]; have := HP4.out; simp only [List.set_set] at this; exact this, HK4.out, HA4.out⟩
          case measure => simp [intOf]; omega
        · as_aux_lemma =>
          go_wp2_with (fail)
          go_quiet (fail)
          clear hw7
          have HI2 := Lib.hid (HI.out.grew (below_drewN (Below.refl _ _) nq))
          have HK2 := Lib.hid (HKk.out.grew (below_drewN (Below.refl _ _) nq))
          have HA2 := Lib.hid (up_trans HA.out (up_below (below_drewN (Below.refl _ _) nq)))
          generalize wr.drewN nq = w2 at *
          have k0 := HK2.out.cell (i := 1) rfl
          have c0 := HI2.out.blk.cell (i := 0) rfl
          go_wp2_with (fail)
          obtain ⟨K, hK⟩ : ∃ K : Int, K = min (max z1 0) ((x.2.d.length : Int) - x.2.s) := ⟨_, rfl⟩
          have hkeep : keepF x.2 ([z0, z1].getD 1 0) = ⟨x.2.d.take (x.2.s + K).toNat, x.2.s + K⟩ := by
            rw [hK]; rfl
          have hK0 : 0 ≤ K := by rw [hK]; omega
          have hK1 : K ≤ (x.2.d.length : Int) - x.2.s := by rw [hK]; omega
          rw [← hK]
          clear hK
          rw [hkeep] at HE1
          clear hkeep
          have hl2 : (CK.length : Nat) = d.m.length := hlen
          obtain ⟨gbx, hgx, _, r0, r1, r2⟩ := HI2.out.get i hi2
          have hgx : gb = gbx := by simpa using hgx
          subst hgx
          simp only at r0 r1 r2 c0
          rw [HEx.out] at r0 r1 r2
          rw [hl2] at c0
          have f2 := World.ownsRow.frozenAt HI2.out.rows (i * 3 + 2)
          have hw8 : IntKind.i64.wrap (x.2.s + K) = x.2.s + K := IntWalk.i64_in _ (by omega)
          obtain ⟨P1, P2⟩ := HI2.out.poke i hi2 2 (by omega) (.int .i64 (x.2.s + K)) (x.1, ⟨x.2.d, x.2.s + K⟩) (by show _ = (rfC CK[i]).set 2 _; rw [HEx.out]; rfl)
          have HP := Lib.hid (P1.grew (Below.refl _ _).drew)
          have HKp := Lib.hid ((HK2.out.drew : BlkAt kb _ _ w2.drew))
          have HK3 : Hid (BlkAt kb 3 [.int .i64 z0, .int .i64 z1] (w2.setCell ⟨gb, i * 3 + 2, none⟩ (.int .i64 (x.2.s + K))).drew) := Lib.hid (by
            have hb := HK2.out
            unfold BlkAt at hb ⊢
            rw [heap_drew, heap_setCell_other _ _ _ _ (fun e => hkgb (by simpa using e))]
            exact hb)
          have HA3 := Lib.hid (up_trans HA2.out (up_trans (up_grown (base := base) P2 (fun q hq => by have := Option.some.inj hq; omega)) (up_below (Below.refl _ (w2.setCell ⟨gb, i * 3 + 2, none⟩ (.int .i64 (x.2.s + K)))).drew)))
          clear P1 P2 HKp
          go_region
          clear hw8
          generalize (w2.setCell ⟨gb, i * 3 + 2, none⟩ (.int .i64 (x.2.s + K))).drew = w3 at *
          have hi3 : i < ((CK.set i (x.1, ⟨x.2.d, x.2.s + K⟩))).length := by rw [List.length_set]; exact hi2
          obtain ⟨gby, hgy, _, s0, s1, s2⟩ := HP.out.get i hi3
          have hgy : gb = gby := by simpa using hgy
          subst hgy
          simp only [List.getElem_set_self] at s0 s1 s2
          have c0 := HP.out.blk.cell (i := 0) rfl
          simp only [List.length_set] at c0
          rw [hl2] at c0
          have f1 := World.ownsRow.frozenAt HP.out.rows (i * 3 + 1)
          have hn0 : 0 ≤ x.2.s + K := by omega
          obtain ⟨m, hm⟩ : ∃ m : Nat, x.2.s + K = (m : Int) := ⟨(x.2.s + K).toNat, by omega⟩
          rw [hm] at s2 HE1 HP ⊢
          rw [Int.toNat_natCast] at HE1
          have hmle : m ≤ (bs x.2.d).size := by omega
          have hi4 : i < (CK.set i (x.1, ⟨x.2.d, (m : Int)⟩)).length := by rw [List.length_set]; exact hi2
          have hcut : (bs x.2.d).extract 0 m = bs (x.2.d.take m) := by rw [bs_extract]; simp
          obtain ⟨P1, P2⟩ := HP.out.poke i hi4 1 (by omega) (.string (bs (x.2.d.take m))) (x.1, ⟨x.2.d.take m, (m : Int)⟩) (by simp only [List.getElem_set_self]; rfl)
          have HP4 := Lib.hid (P1.grew (Below.refl _ _).drew)
          have HK4 : Hid (BlkAt kb 3 [.int .i64 z0, .int .i64 z1] (w3.setCell ⟨gb, i * 3 + 1, none⟩ (.string (bs (x.2.d.take m)))).drew) := Lib.hid (by
            have hb := HK3.out
            unfold BlkAt at hb ⊢
            rw [heap_drew, heap_setCell_other _ _ _ _ (fun e => hkgb (by simpa using e))]
            exact hb)
          have HA4 := Lib.hid (up_trans HA3.out (up_trans (up_grown (base := base) P2 (fun q hq => by have := Option.some.inj hq; omega)) (up_below (Below.refl _ (w3.setCell ⟨gb, i * 3 + 1, none⟩ (.string (bs (x.2.d.take m))))).drew)))
          clear P1 P2 HA3 HK3
          go_wp2_with (fail)
          go_region
          go_wp2
          go_roundw
          case rel => exact ⟨i + 1, 1 + 1, by go_num, by go_num, by omega, by omega, HE2.out, by rw [HE1.out]; have := HP4.out; simp only [List.set_set] at this; exact this, HK4.out, HA4.out⟩
          case measure => simp [intOf]; omega
        · as_aux_lemma =>
          go_wp2_with (fail)
          go_quiet (fail)
          clear hw7
          have HI2 := Lib.hid (HI.out.grew (below_drewN (Below.refl _ _) nq))
          have HK2 := Lib.hid (HKk.out.grew (below_drewN (Below.refl _ _) nq))
          have HA2 := Lib.hid (up_trans HA.out (up_below (below_drewN (Below.refl _ _) nq)))
          generalize wr.drewN nq = w2 at *
          have q5 : decide (n < 2) = false := decide_eq_false (by omega)
          have c0 := HI2.out.blk.cell (i := 0) rfl
          go_wp2_with (fail)
          obtain ⟨K, hK⟩ : ∃ K : Int, K = 0 := ⟨_, rfl⟩
          have hkeep : keepF x.2 ([z0, z1].getD n 0) = ⟨x.2.d.take (x.2.s).toNat, x.2.s⟩ := by
            unfold keepF; rw [List.getD_eq_getElem?_getD, List.getElem?_eq_none (by simpa using hn2)]
            show (⟨x.2.d.take (x.2.s + min (max (0 : Int) 0) ((x.2.d.length : Int) - x.2.s)).toNat, x.2.s + min (max (0 : Int) 0) ((x.2.d.length : Int) - x.2.s)⟩ : Fil) = _; have e0 : min (max (0 : Int) 0) ((x.2.d.length : Int) - x.2.s) = 0 := by omega
            rw [e0, Int.add_zero]
          have hK0 : 0 ≤ K := by rw [hK]; omega
          have hK1 : K ≤ (x.2.d.length : Int) - x.2.s := by rw [hK]; omega
          skip
          clear hK
          rw [hkeep] at HE1
          clear hkeep
          have hl2 : (CK.length : Nat) = d.m.length := hlen
          obtain ⟨gbx, hgx, _, r0, r1, r2⟩ := HI2.out.get i hi2
          have hgx : gb = gbx := by simpa using hgx
          subst hgx
          simp only at r0 r1 r2 c0
          rw [HEx.out] at r0 r1 r2
          rw [hl2] at c0
          have f2 := World.ownsRow.frozenAt HI2.out.rows (i * 3 + 2)
          have hw8 : IntKind.i64.wrap (x.2.s) = x.2.s := IntWalk.i64_in _ (by omega)
          obtain ⟨P1, P2⟩ := HI2.out.poke i hi2 2 (by omega) (.int .i64 (x.2.s)) (x.1, ⟨x.2.d, x.2.s⟩) (by show _ = (rfC CK[i]).set 2 _; rw [HEx.out]; rfl)
          have HP := Lib.hid (P1.grew (Below.refl _ _).drew)
          have HKp := Lib.hid ((HK2.out.drew : BlkAt kb _ _ w2.drew))
          have HK3 : Hid (BlkAt kb 3 [.int .i64 z0, .int .i64 z1] (w2.setCell ⟨gb, i * 3 + 2, none⟩ (.int .i64 (x.2.s))).drew) := Lib.hid (by
            have hb := HK2.out
            unfold BlkAt at hb ⊢
            rw [heap_drew, heap_setCell_other _ _ _ _ (fun e => hkgb (by simpa using e))]
            exact hb)
          have HA3 := Lib.hid (up_trans HA2.out (up_trans (up_grown (base := base) P2 (fun q hq => by have := Option.some.inj hq; omega)) (up_below (Below.refl _ (w2.setCell ⟨gb, i * 3 + 2, none⟩ (.int .i64 (x.2.s)))).drew)))
          clear P1 P2 HKp
          go_region
          clear hw8
          generalize (w2.setCell ⟨gb, i * 3 + 2, none⟩ (.int .i64 (x.2.s))).drew = w3 at *
          have hi3 : i < ((CK.set i (x.1, ⟨x.2.d, x.2.s⟩))).length := by rw [List.length_set]; exact hi2
          obtain ⟨gby, hgy, _, s0, s1, s2⟩ := HP.out.get i hi3
          have hgy : gb = gby := by simpa using hgy
          subst hgy
          simp only [List.getElem_set_self] at s0 s1 s2
          have c0 := HP.out.blk.cell (i := 0) rfl
          simp only [List.length_set] at c0
          rw [hl2] at c0
          have f1 := World.ownsRow.frozenAt HP.out.rows (i * 3 + 1)
          have hn0 : 0 ≤ x.2.s := by omega
          obtain ⟨m, hm⟩ : ∃ m : Nat, x.2.s = (m : Int) := ⟨(x.2.s).toNat, by omega⟩
          rw [hm] at s2 HE1 HP ⊢
          rw [Int.toNat_natCast] at HE1
          have hmle : m ≤ (bs x.2.d).size := by omega
          have hi4 : i < (CK.set i (x.1, ⟨x.2.d, (m : Int)⟩)).length := by rw [List.length_set]; exact hi2
          have hcut : (bs x.2.d).extract 0 m = bs (x.2.d.take m) := by rw [bs_extract]; simp
          obtain ⟨P1, P2⟩ := HP.out.poke i hi4 1 (by omega) (.string (bs (x.2.d.take m))) (x.1, ⟨x.2.d.take m, (m : Int)⟩) (by simp only [List.getElem_set_self]; rfl)
          have HP4 := Lib.hid (P1.grew (Below.refl _ _).drew)
          have HK4 : Hid (BlkAt kb 3 [.int .i64 z0, .int .i64 z1] (w3.setCell ⟨gb, i * 3 + 1, none⟩ (.string (bs (x.2.d.take m)))).drew) := Lib.hid (by
            have hb := HK3.out
            unfold BlkAt at hb ⊢
            rw [heap_drew, heap_setCell_other _ _ _ _ (fun e => hkgb (by simpa using e))]
            exact hb)
          have HA4 := Lib.hid (up_trans HA3.out (up_trans (up_grown (base := base) P2 (fun q hq => by have := Option.some.inj hq; omega)) (up_below (Below.refl _ (w3.setCell ⟨gb, i * 3 + 1, none⟩ (.string (bs (x.2.d.take m))))).drew)))
          clear P1 P2 HA3 HK3
          go_wp2_with (fail)
          go_region
          go_wp2
          go_roundw
          case rel => exact ⟨i + 1, n + 1, by go_num, by go_num, by omega, by omega, HE2.out, by rw [HE1.out]; have := HP4.out; simp only [List.set_set] at this; exact this, HK4.out, HA4.out⟩
          case measure => simp [intOf]; omega
    · as_aux_lemma =>
      have q0 : decide (i < d.m.length) = false := decide_eq_false hlt
      have ei : i = d.m.length := by omega
      have f2 := HI.out.blk.frozen 2
      have f3 := HI.out.blk.frozen 3
      have c2 := HI.out.blk.cell (i := 2) rfl
      have c3 := HI.out.blk.cell (i := 3) rfl
      have hgg := (grown_set wr g 3 (.bool false)).trans (grown_set _ g 2 (.int .i64 0))
      have HD : Hid (RdAt base g (crashD d [z0, z1]) ((wr.setCell ⟨g, 3, none⟩ (.bool false)).setCell ⟨g, 2, none⟩ (.int .i64 0))) := Lib.hid (by
        have hcm : crashK d.m [z0, z1] i = crashM d.m [z0, z1] := by rw [ei]; exact crashK_end d.m [z0, z1]
        have hb := (HI.out.blk.set 3 (.bool false)).set 2 (.int .i64 0)
        have hk := HI.out.keep hgg
        rw [hcm] at hb hk
        exact ⟨a, cap, hb, hk, hle⟩)
      have HU := Lib.hid (up_trans HA.out (up_grown (base := base) hgg (fun q hq => by have := Option.some.inj hq; omega)))
      clear hgg
      go_wp2
      go_end0
      exact ⟨rfl, HD.out, HU.out⟩
end
end Go.Proofs.YtbaffabemomgjaaGreatDoor
