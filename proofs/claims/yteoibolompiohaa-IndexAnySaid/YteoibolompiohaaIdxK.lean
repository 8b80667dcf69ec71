/- The walk of fill. Conditions: as each theorem says. -/
import Derived.Test.YteoibolompiohaaIdxJ
namespace Go.Proofs.Yteoibolompiohaa
open Go.RowKit

/-- What fill comes to. -/
def FillGot (m : Mem) (t' : Tr) (j : Nat) (w : World) (e : Ending) (w' : World) : Prop := ∃ m', e = .returned (.int .i64 (j : Int)) ∧ TreeAt m' t' w' ∧ Stp m m' w w'
section
variable {m : Mem} {t : Tr} {w : World} {d a : Nat}
set_option maxRecDepth 100000 in
set_option maxHeartbeats 4000000 in
theorem fill_rich (h : TreeAt m t w) (hg : t.Good (d + 1) a) {A B : List Nat} {c : Nat} (hk : (t.nd a).ks = A ++ c :: B) (h5 : 4 < (t.nd c).ps.length) (hn : t.nodes.length ≤ 100000) :
    Calls Try.prog 45 #[ptrV m.g, .int .i64 (a : Int), .int .i64 (A.length : Int)] w (FillGot m t A.length w) := by
  obtain ⟨hgc, hac, haf, hx⟩ := kids_apart hg hk
  have hok := hg.ok
  rw [Tr.ok] at hok
  have halt := hok.1
  have hclt := ok_lt hgc.ok
  have hil : A.length < (t.nd a).ks.length := by rw [hk]; simp
  have hks10 : (t.nd a).ks.length ≤ 10 := by have := hok.2.1; have := hok.2.2.1; omega
  obtain ⟨kb, kc, kpv, hNk, ak0, hGk, hkb⟩ := h.kidsOf a halt (by omega)
  have e0 := hGk.cells inCells_len rfl A.length hil
  rw [show (t.nd a).ks[A.length] = c by simp [hk]] at e0
  have q0 := e0 0 _ rfl
  rw [Nat.mul_one, Nat.add_zero] at q0
  obtain ⟨cb, cc, ckv, hNc, c0, hPCg, hcb⟩ := h.pairsOf c hclt (by omega)
  have g0 := h.top.cell (i := 0) rfl
  have haa : (a : Int) < (t.nodes.length : Int) := by omega
  have hcc : (c : Int) < (t.nodes.length : Int) := by omega
  have hi0 : (A.length : Int) < ((t.nd a).ks.length : Int) := by omega
  have h5i : (4 : Int) < ((t.nd c).ps.length : Int) := by omega
  have H := Lib.hid h
  clear h hk hg e0 hGk hNk hgc hac haf hx hok hNc hPCg
  unfold ptrV
  go_enter Try.func45, Try.ntmps45
  go_upto_region 2 with (fail)
  go_region
  go_wp2_with (fail)
  go_ret
  exact ⟨m, rfl, H.out.drew, Stp.of_below ((Below.refl _ w).drew)⟩
set_option maxRecDepth 100000 in
set_option maxHeartbeats 4000000 in
theorem fill_rotL (h : TreeAt m t w) (hg : t.Good (d + 1) a) {A B : List Nat} {l c : Nat} (hk : (t.nd a).ks = A ++ l :: c :: B) (h5 : 4 < (t.nd l).ps.length) (h4 : (t.nd c).ps.length = 4) (hn : t.nodes.length ≤ 100000) :
    Calls Try.prog 45 #[ptrV m.g, .int .i64 (a : Int), .int .i64 ((A.length + 1 : Nat) : Int)] w (FillGot m (rotL t a (A.length + 1)) (A.length + 1) w) := by
  obtain ⟨hgl, hgc, hal, hac, haf, hlc, hx⟩ := kids_two hg hk
  obtain ⟨n1, n2, n3⟩ := two_ne hg hk
  have hpos := okN_pos hg.ok hk
  have hok := hg.ok
  rw [Tr.ok] at hok
  have halt := hok.1
  have hllt := ok_lt hgl.ok
  have hclt := ok_lt hgc.ok
  have hl9 := okN_ps ((ok_eq t d l).1 hgl.ok).2
  have hps9 := hok.2.2.1
  have hks10 := hok.2.1
  have hil : A.length < (t.nd a).ks.length := by rw [hk]; simp
  have hil1 : A.length + 1 < (t.nd a).ks.length := by rw [hk]; simp
  have hkl9 := ok_len hgl.ok
  have hkc9 := ok_len hgc.ok
  have hg1 : (t.nd a).ks.getD A.length 0 = l := by rw [hk, getD_at]
  have hg2 : (t.nd a).ks.getD (A.length + 1) 0 = c := by rw [hk, getD_at2]
  obtain ⟨mid, hmid⟩ : ∃ x, x = (t.nd a).ps.getD A.length pr0 := ⟨_, rfl⟩
  have hme : (t.nd a).ps[A.length] = mid := by rw [hmid]; simp [List.getD, hpos]
  obtain ⟨kb, kc, kpv, hNk, ak0, hGk, hkb⟩ := h.kidsOf a halt (by omega)
  have e0 := hGk.cells inCells_len rfl A.length hil
  have e1 := hGk.cells inCells_len rfl (A.length + 1) hil1
  rw [show (t.nd a).ks[A.length] = l by simp [hk]] at e0
  rw [show (t.nd a).ks[A.length + 1] = c by simp [hk]] at e1
  have q0 := e0 0 _ rfl
  have q1 := e1 0 _ rfl
  rw [Nat.mul_one, Nat.add_zero] at q0 q1
  obtain ⟨cb, cc, ckv, hNc, c0, hPCg, hcb⟩ := h.pairsOf c hclt (by omega)
  obtain ⟨lb, lc, lkv, hNl, l0, hPLg, hlb⟩ := h.pairsOf l hllt (by omega)
  rw [h4] at c0
  have g0 := h.top.cell (i := 0) rfl
  have haa : (a : Int) < (t.nodes.length : Int) := by omega
  have hll : (l : Int) < (t.nodes.length : Int) := by omega
  have hcc : (c : Int) < (t.nodes.length : Int) := by omega
  have hi1 : (A.length : Int) + 1 < ((t.nd a).ks.length : Int) := by omega
  have hi0 : (A.length : Int) < ((t.nd a).ks.length : Int) := by omega
  have h5i : (4 : Int) < ((t.nd l).ps.length : Int) := by omega
  have hw : IntKind.i64.wrap ((A.length : Int) + 1 - 1) = (A.length : Int) := by rw [show (A.length : Int) + 1 - 1 = (A.length : Int) by omega]; exact IntWalk.i64_in _ (by omega)
  have hw0 : IntKind.i64.wrap (A.length : Int) = (A.length : Int) := IntWalk.i64_in _ (by omega)
  obtain ⟨n, hn1⟩ : ∃ n, (t.nd l).ps.length = n + 1 := ⟨(t.nd l).ps.length - 1, by omega⟩
  have hwl : IntKind.i64.wrap (((t.nd l).ps.length : Int) - 1) = (n : Int) := by rw [hn1, show ((n + 1 : Nat) : Int) - 1 = (n : Int) by omega]; exact IntWalk.i64_in _ (by omega)
  have HN1 := Lib.hid hn1
  clear hn1
  have h01 : (0 : Int) < (A.length : Int) + 1 := by omega
  have h02 : (0 : Int) ≤ (A.length : Int) + 1 := by omega
  have ht1 : ((A.length : Int) + 1).toNat = A.length + 1 := by omega
  have H := Lib.hid h
  have HK := Lib.hid hk
  have HGD := Lib.hid (And.intro hg1 hg2)
  have HME := Lib.hid hme
  have HMD := Lib.hid hmid
  have HX := Lib.hid (And.intro hgl hgc)
  clear h hk hg e0 e1 hGk hNk hgl hgc hal hac haf hlc hx hok hNc hPCg hNl hPLg hg1 hg2 hme hmid
  simp only [Int.natCast_add, Int.natCast_one]
  unfold ptrV
  go_enter Try.func45, Try.ntmps45
  go_upto_region 2 with (fail)
  go_region
  go_upto_region 6 with (fail)
  go_region
  go_upto_region 9 with (fail)
  have T2 := H.out.drew.drew
  have U2 : Stp m m w w.drew.drew := Stp.of_below ((Below.refl _ w).drew.drew)
  clear g0 ak0 q0 q1 c0 l0
  generalize w.drew.drew = w2 at *
  obtain ⟨PA, hPA⟩ : ∃ x, x = (t.nd a).ps := ⟨_, rfl⟩
  obtain ⟨KA, hKA⟩ : ∃ x, x = (t.nd a).ks := ⟨_, rfl⟩
  obtain ⟨PL, hPL⟩ : ∃ x, x = (t.nd l).ps := ⟨_, rfl⟩
  obtain ⟨KL, hKL⟩ : ∃ x, x = (t.nd l).ks := ⟨_, rfl⟩
  obtain ⟨PC, hPC⟩ : ∃ x, x = (t.nd c).ps := ⟨_, rfl⟩
  obtain ⟨KC, hKC⟩ : ∃ x, x = (t.nd c).ks := ⟨_, rfl⟩
  have HD := Lib.hid (And.intro hPA (And.intro hKA (And.intro hPL (And.intro hKL (And.intro hPC hKC)))))
  have HU2 := Lib.hid U2
  have HT2 := Lib.hid T2
  obtain ⟨cb, cc, ckv, hNc, c0, hPCg, hcb⟩ := T2.pairsOf c hclt (by omega)
  obtain ⟨ab, ac, akv, hNa, a0, hPAg, hab⟩ := T2.pairsOf a halt (by omega)
  have hac := hPAg.cells prCells_len rfl A.length hpos
  rw [HME.out] at hac
  have k0 := hac 0 _ rfl
  have k1 := hac 1 _ rfl
  rw [Nat.add_zero] at k0
  have hcab : cb ≠ ab := fun e => by
    obtain ⟨h1, e1⟩ := N_of c hNc
    obtain ⟨h2, e2⟩ := N_of a hNa
    exact T2.psep c a h1 h2 cb n2 (by rw [e1]; rfl) (by rw [e2, e]; rfl)
  rw [← hPC] at hPCg c0 hNc h4
  rw [← hPA] at hPAg a0 hNa hpos hps9
  have hpA : (A.length : Int) < (PA.length : Int) := by omega
  have hnbc : (Value.slice (some ⟨cb, 0, none⟩) PC.length cc).ownBlock ≠ some m.nb := fun e => by
    have := hPCg.ne T2.row (by decide) e
    exact this rfl
  have hcab3 : (Value.slice (some ⟨cb, 0, none⟩) PC.length cc).ownBlock ≠ some ab := fun e => hcab (by simpa [Value.ownBlock] using e)
  have HPut := Lib.hid (putPr_any _ PC 0 (Nat.zero_le _) (by omega) mid w2.drew hPCg.drew)
  unfold prCells PutSaid at HPut
  simp only [Int.natCast_zero] at HPut
  have hS0 : ∀ W, w2.grownBy W (Value.slice (some ⟨cb, 0, none⟩) PC.length cc).ownBlock → (W.cell? ⟨m.nb, c * 2, none⟩ = some (.slice (some ⟨cb, 0, none⟩) PC.length cc) ∧ W.cell? ⟨m.nb, a * 2, none⟩ = some (.slice (some ⟨ab, 0, none⟩) PA.length ac) ∧ W.cell? ⟨ab, A.length * 2, none⟩ = some (.string (bs mid.1)) ∧ W.cell? ⟨ab, A.length * 2 + 1, none⟩ = some (.int .i64 mid.2)) := fun W hg =>
    ⟨hg.cell c0 (fun e => hnbc e.symm), hg.cell a0 (fun e => hnbc e.symm), hg.cell k0 (fun e => hcab3 e.symm), hg.cell k1 (fun e => hcab3 e.symm)⟩
  have HS0 := Lib.hid hS0
  have z0 := T2.thaw (c * 2)
  have hnb2 := T2.nb_lt
  have HNc := Lib.hid hNc
  have HNB := Lib.hid hnbc
  have H4 := Lib.hid h4
  clear hS0 hnbc hcab3 hNc hNa hPCg hPAg hac a0 k0 k1 T2 U2 hPA hKA hPL hKL hPC hKC h4
  refine wp_region_last [true, true, true, true, true, true, true, true, true, true, true, true, true, false, false, false, false] (fun W => W.cell? ⟨m.nb, c * 2, none⟩ = some (.slice (some ⟨cb, 0, none⟩) PC.length cc) ∧ W.cell? ⟨m.nb, a * 2, none⟩ = some (.slice (some ⟨ab, 0, none⟩) PA.length ac) ∧ W.cell? ⟨ab, A.length * 2, none⟩ = some (.string (bs mid.1)) ∧ W.cell? ⟨ab, A.length * 2 + 1, none⟩ = some (.int .i64 mid.2)) (by kernel_rfl) (by kernel_rfl) (fun _ _ d _ _ h => by cases d <;> exact h) (HS0.out _ (grown_drew _ _)) ?_
  simp only [List.map, Bool.not_true, Bool.not_false, pickM_yes, pickM_no, pickM_nil]
  repeat ((refine wpHeld_step ?_ rfl (fun W hW => ?_) ?_; rotate_left; focus ((try dsimp only at hW); go_simp; try with_reducible rfl)); simp only [Act.put, List.setIfInBounds_toArray, List.set_cons_zero, List.set_cons_succ])
  refine wpHeld_nil ?_
  refine wpHeavy_step (fun K hK => ?_)
  go_simp
  (with_reducible refine HPut.out.mono ?_)
  rintro e w4 ⟨pg, pgc, rfl, hG4, hgr4, hpg⟩
  have hgr4 := (grown_drew w2 _).trans hgr4
  refine hK.out _ _ (fun _ => HS0.out _ hgr4) ?_
  clear hK K
  (try simp only [Act.put, List.setIfInBounds_toArray, List.set_cons_zero, List.set_cons_succ])
  have x0 := (HS0.out _ hgr4).1
  have x1 := (frozen_of_block (hgr4.block m.nb hnb2 (fun e => HNB.out e.symm)) (c * 2)).trans z0
  have hnb4 : m.nb < w4.heap.size := Nat.lt_of_lt_of_le hnb2 hgr4.size
  refine wpHeavy_step (fun K hK => ?_)
  go_simp
  refine hK.out _ _ (fun _ => HS0.out _ hgr4) ?_
  clear hK K
  (try simp only [Act.put, List.setIfInBounds_toArray, List.set_cons_zero, List.set_cons_succ])
  refine wpHeavy_step (fun K hK => ?_)
  go_simp
  refine hK.out _ _ (fun _ => HS0.out _ hgr4) ?_
  clear hK K
  (try simp only [Act.put, List.setIfInBounds_toArray, List.set_cons_zero, List.set_cons_succ])
  refine wpHeavy_step (fun K hK => ?_)
  go_simp
  refine hK.out _ _ (fun h' => absurd rfl h') ?_
  clear hK K
  (try simp only [Act.put, List.setIfInBounds_toArray, List.set_cons_zero, List.set_cons_succ])
  refine wpHeavy_nil ?_
  obtain ⟨m3, T3, U3, hnb3, -, -, -, -⟩ := HT2.out.putP c HNc.out hgr4 hG4 (by
    rcases hpg with h' | h'
    · left; rw [h']; rfl
    · right; intro b hb; simp only [Value.ownBlock, Option.some.injEq] at hb; have : w2.heap.size ≤ pg := h'; omega)
  generalize w4.setCell ⟨m.nb, c * 2, none⟩ _ = w5 at *
  obtain ⟨t3, ht3⟩ : ∃ t3, t3 = t.put c ⟨putL PC 0 mid, KC⟩ := ⟨_, rfl⟩
  rw [← HD.out.2.2.2.2.2, ← ht3] at T3
  have hl3 : t3.nodes.length = t.nodes.length := by rw [ht3, put_len]
  have hL3 : t3.nd l = ⟨PL, KL⟩ := by rw [ht3, nd_put_ne n3, HD.out.2.2.1, HD.out.2.2.2.1]
  have hC3 : t3.nd c = ⟨putL PC 0 mid, KC⟩ := by rw [ht3, nd_put_same hclt]
  have hA3 : t3.nd a = ⟨PA, KA⟩ := by rw [ht3, nd_put_ne (Ne.symm n2), HD.out.1, HD.out.2.1]
  have hPLn : PL.length = n + 1 := by rw [HD.out.2.2.1]; exact HN1.out
  have hnL : n < PL.length := by omega
  obtain ⟨lst, hlst⟩ : ∃ x, x = PL.getD n pr0 := ⟨_, rfl⟩
  have hle : PL[n] = lst := by rw [hlst]; simp [List.getD, hnL]
  have HLS := Lib.hid hlst
  have HPL := Lib.hid hPLn
  have HT3 := Lib.hid T3
  have HU3 := Lib.hid (HU2.out.trans U3)
  have Ht3 := Lib.hid ht3
  have HL3 := Lib.hid hL3
  have HC3 := Lib.hid hC3
  have HA3 := Lib.hid hA3
  obtain ⟨ab, ac, akv, hNa, a0, hPAg, hab⟩ := T3.pairsOf a (by omega) (by rw [hA3]; exact Nat.lt_of_le_of_lt (Nat.zero_le _) hpos)
  obtain ⟨lb, lc, lkv, hNl, l0, hPLg, hlb⟩ := T3.pairsOf l (by omega) (by rw [hL3]; exact Nat.lt_of_le_of_lt (Nat.zero_le _) hnL)
  rw [hA3] at hNa a0 hPAg
  rw [hL3] at hNl l0 hPLg
  simp only at hNa a0 hPAg hNl l0 hPLg
  rw [hnb3] at a0 l0
  have hlc2 := hPLg.cells prCells_len rfl n hnL
  rw [hle] at hlc2
  have k0 := hlc2 0 _ rfl
  have k1 := hlc2 1 _ rfl
  rw [Nat.add_zero] at k0
  have hnLi : (n : Int) < (PL.length : Int) := by omega
  have HNa := Lib.hid hNa
  have z2 : ∀ o, w5.frozen? ⟨ab, o, none⟩ = false := fun o => hPAg.thaw rfl o
  have y0 := hPAg.cells prCells_len rfl A.length hpos 0 _ rfl
  have y1 := hPAg.cells prCells_len rfl A.length hpos 1 _ rfl
  rw [Nat.add_zero] at y0
  have hab5 : ab < w5.heap.size := hab
  clear HS0 HPut HT2 HU2 HNc HNB hgr4 hG4 hpg x0 x1 hnb4 z0 hnb2 T3 U3 ht3 hL3 hC3 hA3 hPLn hle hlst hNa hNl hPAg hPLg hlc2 hcb
  go_upto_region 10 with (fail)
  refine wp_region_last [true, true, true, true, true, true, true, true, true, true, true, true, true, true, false] (fun W => W.cell? ⟨m.nb, l * 2, none⟩ = some (.slice (some ⟨lb, 0, none⟩) PL.length lc) ∧ W.cell? ⟨m.nb, a * 2, none⟩ = some (.slice (some ⟨ab, 0, none⟩) PA.length ac) ∧ W.cell? ⟨lb, n * 2, none⟩ = some (.string (bs lst.1)) ∧ W.cell? ⟨lb, n * 2 + 1, none⟩ = some (.int .i64 lst.2)) (by kernel_rfl) (by kernel_rfl) (fun _ _ d _ _ h => by cases d <;> exact h) ⟨l0, a0, k0, k1⟩ ?_
  simp only [List.map, Bool.not_true, Bool.not_false, pickM_yes, pickM_no, pickM_nil]
  repeat ((refine wpHeld_step ?_ rfl (fun W hW => ?_) ?_; rotate_left; focus ((try dsimp only at hW); go_simp; try with_reducible rfl)); simp only [Act.put, List.setIfInBounds_toArray, List.set_cons_zero, List.set_cons_succ])
  refine wpHeld_nil ?_
  refine wpHeavy_step (fun K hK => ?_)
  go_simp
  refine hK.out _ _ (fun h' => absurd rfl h') ?_
  clear hK K
  (try simp only [Act.put, List.setIfInBounds_toArray, List.set_cons_zero, List.set_cons_succ])
  refine wpHeavy_nil ?_
  obtain ⟨hia, ea⟩ := N_of a HNa.out
  obtain ⟨T4, U4⟩ := HT3.out.storePair hia (by rw [ea]) A.length (by rw [HA3.out]; exact hpos) lst
  rw [HA3.out] at T4
  simp only at T4
  have T4 : TreeAt m3 (t3.put a ⟨PA.set A.length lst, KA⟩) ((w5.setCell ⟨ab, A.length * 2, none⟩ (.string (bs lst.1))).setCell ⟨ab, A.length * 2 + 1, none⟩ (.int .i64 lst.2)).drew := T4.drew
  have U4 : Stp m3 m3 w5 ((w5.setCell ⟨ab, A.length * 2, none⟩ (.string (bs lst.1))).setCell ⟨ab, A.length * 2 + 1, none⟩ (.int .i64 lst.2)).drew := U4.trans (Stp.of_below ((Below.refl _ _).drew))
  generalize ((w5.setCell ⟨ab, A.length * 2, none⟩ (.string (bs lst.1))).setCell ⟨ab, A.length * 2 + 1, none⟩ (.int .i64 lst.2)).drew = w6 at *
  obtain ⟨t4, ht4⟩ : ∃ t4, t4 = t3.put a ⟨PA.set A.length lst, KA⟩ := ⟨_, rfl⟩
  rw [← ht4] at T4
  have hl4 : t4.nodes.length = t.nodes.length := by rw [ht4, put_len, hl3]
  have hL4 : t4.nd l = ⟨PL, KL⟩ := by rw [ht4, nd_put_ne n1, HL3.out]
  obtain ⟨lb, lc, lkv, hNl, l0, hPLg, hlb⟩ := T4.pairsOf l (by omega) (by rw [hL4]; exact Nat.lt_of_le_of_lt (Nat.zero_le _) hnL)
  rw [hL4] at hNl l0 hPLg
  simp only at hNl l0 hPLg
  rw [hnb3] at l0
  have z0 : w6.frozen? ⟨m.nb, l * 2, none⟩ = false := hnb3 ▸ T4.thaw _
  have hnb6 : m.nb < w6.heap.size := hnb3 ▸ T4.nb_lt
  have hlc1 : (n : Int) ≤ (lc : Int) := by have := (grow_cap hPLg).2.1; omega
  have HT4 := Lib.hid T4
  have HU4 := Lib.hid (HU3.out.trans U4)
  have Ht4 := Lib.hid ht4
  have HL4 := Lib.hid hL4
  have HNl := Lib.hid hNl
  have HPLg := Lib.hid hPLg
  clear T4 U4 ht4 hL4 hNl hPLg HT3 HU3 HNa a0 y0 y1 k0 k1 z2 hab5 ea hia
  go_upto_region 12 with (fail)
  obtain ⟨m5, T5, U5, hnb5', -, -, -, -⟩ := HT4.out.putP l HNl.out (grown_refl w6 _) (HPLg.out.short prCells_len n (by omega)) (.inl rfl)
  rw [hnb3] at T5 U5
  generalize w6.setCell ⟨m.nb, l * 2, none⟩ _ = w7 at *
  rw [HL4.out] at T5
  simp only at T5
  obtain ⟨t5, ht5⟩ : ∃ t5, t5 = t4.put l ⟨PL.take n, KL⟩ := ⟨_, rfl⟩
  rw [← ht5] at T5
  have hnb5 : m5.nb = m.nb := hnb5'.trans hnb3
  have hl5 : t5.nodes.length = t.nodes.length := by rw [ht5, put_len, hl4]
  have hL5 : t5.nd l = ⟨PL.take n, KL⟩ := by rw [ht5, nd_put_same (by omega)]
  have hC5 : t5.nd c = ⟨putL PC 0 mid, KC⟩ := by rw [ht5, nd_put_ne (Ne.symm n3), Ht4.out, nd_put_ne n2, HC3.out]
  have hnd5 : ∀ x, t5.nd x = if x = a then ⟨PA.set A.length lst, KA⟩ else if x = l then ⟨PL.take n, KL⟩ else if x = c then ⟨putL PC 0 mid, KC⟩ else t.nd x := fun x => by
    rw [ht5]
    by_cases e1 : x = a
    · subst e1; rw [if_pos rfl, nd_put_ne (Ne.symm n1), Ht4.out, nd_put_same (by omega)]
    · rw [if_neg e1]
      by_cases e2 : x = l
      · subst e2; rw [if_pos rfl, nd_put_same (by omega)]
      · rw [if_neg e2, nd_put_ne e2, Ht4.out, nd_put_ne e1, Ht3.out]
        by_cases e3 : x = c
        · subst e3; rw [if_pos rfl, nd_put_same hclt]
        · rw [if_neg e3, nd_put_ne e3]
  have hrest5 : t5.free = t.free ∧ t5.root = t.root ∧ t5.many = t.many := by rw [ht5, Ht4.out, Ht3.out]; exact ⟨rfl, rfl, rfl⟩
  have hR : rotL t a (A.length + 1) = ((t.put c ⟨mid :: PC, KL.drop PL.length ++ KC⟩).put l ⟨PL.take n, KL.take PL.length⟩).put a ⟨PA.set A.length lst, KA⟩ := by
    unfold rotL
    rw [show A.length + 1 - 1 = A.length by omega, HGD.out.1, HGD.out.2, ← HMD.out, ← HD.out.1, ← HD.out.2.1, ← HD.out.2.2.1, ← HD.out.2.2.2.1, ← HD.out.2.2.2.2.1, ← HD.out.2.2.2.2.2, HPL.out, show n + 1 - 1 = n by omega, ← HLS.out]
  have HR := Lib.hid hR
  have HN5 := Lib.hid (And.intro hnd5 hrest5)
  have HT5 := Lib.hid T5
  have HU5 := Lib.hid (HU4.out.trans U5)
  have HL5 := Lib.hid hL5
  have HC5 := Lib.hid hC5
  have Hnb5 := Lib.hid hnb5
  obtain ⟨lpv, lkv, hNl, -, l1, -, hKl⟩ := T5.node l (by omega)
  obtain ⟨la, lc3, rfl⟩ := hKl.slice
  rw [hL5] at hKl hNl l1
  simp only at hKl hNl l1
  rw [hnb5] at l1
  clear T5 U5 ht5 hL5 hC5 hnd5 hrest5 hR HT4 HU4 HNl HPLg l0 z0 hnb6 hlc1
  have hKLs : KL.length = 0 ∨ KL.length = PL.length + 1 := by
    rw [HD.out.2.2.2.1, HD.out.2.2.1]
    rcases hkl9 with ⟨h', _⟩ | ⟨e', _, h'⟩
    · exact .inl h'
    · exact .inr h'
  clear hkl9 hkc9
  rcases hKLs with h0 | h0
  · have hKL0 : KL = [] := List.eq_nil_of_length_eq_zero h0
    have HF := Lib.hid hKL0
    rw [h0] at l1
    clear h0 hKL0 hKl
    go_wp2_with (fail)
    go_ret
    refine ⟨m5, by simp, ?_, HU5.out⟩
    rw [HR.out]
    refine HT5.out.same (by rw [put_len, put_len, put_len, hl5]) (fun x _ => ?_) HN5.out.2.1.symm HN5.out.2.2.1.symm HN5.out.2.2.2.symm
    rw [HN5.out.1 x]
    by_cases e1 : x = a
    · subst e1; rw [if_pos rfl, nd_put_same (by rw [put_len, put_len]; exact halt)]
    · rw [if_neg e1, nd_put_ne e1]
      by_cases e2 : x = l
      · subst e2; rw [if_pos rfl, nd_put_same (by rw [put_len]; exact hllt), HF.out]; simp
      · rw [if_neg e2, nd_put_ne e2]
        by_cases e3 : x = c
        · subst e3; rw [if_pos rfl, nd_put_same hclt, HF.out]; simp [putL]
        · rw [if_neg e3, nd_put_ne e3]
  · clear l1 hKl
    have hPLn := HPL.out
    have hnK : n + 1 < KL.length := by omega
    obtain ⟨xk, hxk⟩ : ∃ x, x = KL.getD (n + 1) 0 := ⟨_, rfl⟩
    have hxe : KL[n + 1] = xk := by rw [hxk]; simp [List.getD, hnK]
    obtain ⟨lkb, lkc, lpv, hNl, l1, hKg, hlkb⟩ := HT5.out.kidsOf l (by omega) (by rw [HL5.out]; exact Nat.lt_of_le_of_lt (Nat.zero_le _) hnK)
    rw [HL5.out] at hNl l1 hKg
    simp only at hNl l1 hKg
    rw [Hnb5.out] at l1
    obtain ⟨cpv, ckv, hNc, -, c1, -, hKc⟩ := HT5.out.node c (by omega)
    obtain ⟨ca, cc3, rfl⟩ := hKc.slice
    rw [HC5.out] at hKc hNc c1
    simp only at hKc hNc c1
    rw [Hnb5.out] at c1
    have hx0 := hKg.cells inCells_len rfl (n + 1) hnK
    rw [hxe] at hx0
    have k0 := hx0 0 _ rfl
    rw [Nat.mul_one, Nat.add_zero] at k0
    have hKC10 : KC.length ≤ 1000 := by
      have := (HX.out.2)
      have h2 := ok_len this.ok
      rw [← HD.out.2.2.2.2.2, ← HD.out.2.2.2.2.1] at h2
      rcases h2 with ⟨h', _⟩ | ⟨e', _, h'⟩
      · omega
      · have := H4.out; omega
    have hKLi : (0 : Int) < (KL.length : Int) := by omega
    have hni : (n : Int) + 1 < (KL.length : Int) := by omega
    have hni2 : (n : Int) + 1 ≤ (lkc : Int) := by have := (grow_cap hKg).2.1; omega
    have hPL9 : PL.length ≤ 9 := by rw [HD.out.2.2.1]; exact hl9
    have hwn : IntKind.i64.wrap ((n : Int) + 1) = (n : Int) + 1 := IntWalk.i64_in _ (by omega)
    have hn0 : (0 : Int) ≤ (n : Int) + 1 := by omega
    have hnt : ((n : Int) + 1).toNat = n + 1 := by omega
    have hnbc : (Value.slice ca KC.length cc3).ownBlock ≠ some m.nb := fun e => by
      have := hKc.ne HT5.out.row (by decide) e
      rw [Hnb5.out] at this
      exact this rfl
    have hclk : (Value.slice ca KC.length cc3).ownBlock ≠ some lkb := fun e => by
      obtain ⟨h1, e1⟩ := N_of c hNc
      obtain ⟨h2, e2⟩ := N_of l hNl
      exact HT5.out.ksep c l h1 h2 lkb (Ne.symm n3) (by rw [e1]; exact e) (by rw [e2]; rfl)
    have HPut := putIn_any _ KC 0 (Nat.zero_le _) (by omega) xk w7.drew hKc.drew
    unfold PutSaid at HPut
    simp only [Int.natCast_zero] at HPut
    have HPut := Lib.hid HPut
    have HS0 := Lib.hid (show ∀ W, w7.grownBy W (Value.slice ca KC.length cc3).ownBlock → (W.cell? ⟨m.nb, c * 2 + 1, none⟩ = some (.slice ca KC.length cc3) ∧ W.cell? ⟨m.nb, l * 2 + 1, none⟩ = some (.slice (some ⟨lkb, 0, none⟩) KL.length lkc) ∧ W.cell? ⟨lkb, n + 1, none⟩ = some (.int .i64 (xk : Int))) from fun W hg => ⟨hg.cell c1 (fun e => hnbc e.symm), hg.cell l1 (fun e => hnbc e.symm), hg.cell k0 (fun e => hclk e.symm)⟩)
    have z0 : w7.frozen? ⟨m.nb, c * 2 + 1, none⟩ = false := Hnb5.out ▸ HT5.out.thaw _
    have hnb7 : m.nb < w7.heap.size := Hnb5.out ▸ HT5.out.nb_lt
    have HNc := Lib.hid hNc
    have HNB := Lib.hid hnbc
    have HXK := Lib.hid hxk
    have H0 := Lib.hid h0
    clear hx0 hxe hxk hNc hNl hKg hKc hnbc hclk k0 c1 hPLn h0
    go_upto_region 13 with (fail)
    clear l1
    refine wp_region_last [true, true, true, true, true, true, true, true, true, true, true, true, true, false, false, false, false] (fun W => W.cell? ⟨m.nb, c * 2 + 1, none⟩ = some (.slice ca KC.length cc3) ∧ W.cell? ⟨m.nb, l * 2 + 1, none⟩ = some (.slice (some ⟨lkb, 0, none⟩) KL.length lkc) ∧ W.cell? ⟨lkb, n + 1, none⟩ = some (.int .i64 (xk : Int))) (by kernel_rfl) (by kernel_rfl) (fun _ _ d _ _ h => by cases d <;> exact h) (HS0.out _ (grown_drew _ _)) ?_
    simp only [List.map, Bool.not_true, Bool.not_false, pickM_yes, pickM_no, pickM_nil]
    repeat ((refine wpHeld_step ?_ rfl (fun W hW => ?_) ?_; rotate_left; focus ((try dsimp only at hW); go_simp; try with_reducible rfl)); simp only [Act.put, List.setIfInBounds_toArray, List.set_cons_zero, List.set_cons_succ])
    refine wpHeld_nil ?_
    refine wpHeavy_step (fun K hK => ?_)
    go_simp
    (with_reducible refine HPut.out.mono ?_)
    rintro e w8 ⟨pg, pgc, rfl, hG8, hgr8, hpg⟩
    have hgr8 := (grown_drew w7 _).trans hgr8
    refine hK.out _ _ (fun _ => HS0.out _ hgr8) ?_
    clear hK K
    (try simp only [Act.put, List.setIfInBounds_toArray, List.set_cons_zero, List.set_cons_succ])
    have x0 := (HS0.out _ hgr8).1
    have x1 := (frozen_of_block (hgr8.block m.nb hnb7 (fun e => HNB.out e.symm)) (c * 2 + 1)).trans z0
    have hnb8 : m.nb < w8.heap.size := Nat.lt_of_lt_of_le hnb7 hgr8.size
    refine wpHeavy_step (fun K hK => ?_)
    go_simp
    refine hK.out _ _ (fun _ => HS0.out _ hgr8) ?_
    clear hK K
    (try simp only [Act.put, List.setIfInBounds_toArray, List.set_cons_zero, List.set_cons_succ])
    refine wpHeavy_step (fun K hK => ?_)
    go_simp
    refine hK.out _ _ (fun _ => HS0.out _ hgr8) ?_
    clear hK K
    (try simp only [Act.put, List.setIfInBounds_toArray, List.set_cons_zero, List.set_cons_succ])
    refine wpHeavy_step (fun K hK => ?_)
    go_simp
    refine hK.out _ _ (fun h' => absurd rfl h') ?_
    clear hK K
    (try simp only [Act.put, List.setIfInBounds_toArray, List.set_cons_zero, List.set_cons_succ])
    refine wpHeavy_nil ?_
    obtain ⟨m6, T6, U6, hnb6', -, -, -, -⟩ := HT5.out.putK c HNc.out hgr8 hG8 (by
      rcases hpg with h' | h'
      · left; rw [h']; rfl
      · right; intro b hb; simp only [Value.ownBlock, Option.some.injEq] at hb; have : w7.heap.size ≤ pg := h'; omega)
    rw [Hnb5.out] at T6 U6
    generalize w8.setCell ⟨m.nb, c * 2 + 1, none⟩ _ = w9 at *
    rw [HC5.out] at T6
    simp only at T6
    obtain ⟨t6, ht6⟩ : ∃ t6, t6 = t5.put c ⟨putL PC 0 mid, putL KC 0 xk⟩ := ⟨_, rfl⟩
    rw [← ht6] at T6
    have hnb6 : m6.nb = m.nb := hnb6'.trans Hnb5.out
    have hl6 : t6.nodes.length = t.nodes.length := by rw [ht6, put_len, hl5]
    have hL6 : t6.nd l = ⟨PL.take n, KL⟩ := by rw [ht6, nd_put_ne n3, HL5.out]
    obtain ⟨lkb, lkc, lpv, hNl, l1, hKg, hlkb⟩ := T6.kidsOf l (by omega) (by rw [hL6]; exact Nat.lt_of_le_of_lt (Nat.zero_le _) hnK)
    rw [hL6] at hNl l1 hKg
    simp only at hNl l1 hKg
    rw [hnb6] at l1
    have z6 : w9.frozen? ⟨m.nb, l * 2 + 1, none⟩ = false := hnb6 ▸ T6.thaw _
    have hnb9 : m.nb < w9.heap.size := hnb6 ▸ T6.nb_lt
    have hni2 : (n : Int) + 1 ≤ (lkc : Int) := by have := (grow_cap hKg).2.1; omega
    have HT6 := Lib.hid T6
    have HU6 := Lib.hid (HU5.out.trans U6)
    have Ht6 := Lib.hid ht6
    have HL6 := Lib.hid hL6
    have HNl := Lib.hid hNl
    have HKg := Lib.hid hKg
    clear T6 U6 ht6 hL6 hNl hKg HT5 HU5 HS0 HPut hgr8 hG8 hpg x0 x1 hnb8 z0 hnb7 HNc HNB
    go_wp2_with (fail)
    go_ret
    obtain ⟨m7, T7, U7, -, -, -, -, -⟩ := HT6.out.putK l HNl.out (grown_refl w9 _) (HKg.out.short inCells_len (n + 1) (by omega)) (.inl rfl)
    rw [hnb6] at T7 U7
    rw [HL6.out] at T7
    simp only at T7
    refine ⟨m7, by simp, ?_, HU6.out.trans U7⟩
    rw [HR.out]
    refine T7.same (by rw [put_len, put_len, put_len, put_len, hl6]) (fun x _ => ?_) (by rw [Ht6.out]; exact HN5.out.2.1.symm) (by rw [Ht6.out]; exact HN5.out.2.2.1.symm) (by rw [Ht6.out]; exact HN5.out.2.2.2.symm)
    by_cases e1 : x = a
    · subst e1; rw [nd_put_same (by rw [put_len, put_len]; exact halt), nd_put_ne (Ne.symm n1), Ht6.out, nd_put_ne (Ne.symm n2), HN5.out.1, if_pos rfl]
    · rw [nd_put_ne e1]
      by_cases e2 : x = l
      · subst e2; rw [nd_put_same (by rw [put_len]; exact hllt), nd_put_same (by omega), HPL.out]
      · rw [nd_put_ne e2, nd_put_ne e2, Ht6.out]
        by_cases e3 : x = c
        · subst e3
          rw [nd_put_same hclt, nd_put_same (by omega)]
          have hd : KL.drop PL.length = [xk] := by
            rw [HPL.out, List.drop_eq_getElem_cons hnK, List.drop_of_length_le (by have := H0.out; have := HPL.out; omega), HXK.out]
            simp [List.getD, hnK]
          rw [hd]; simp [putL]
        · rw [nd_put_ne e3, nd_put_ne e3, HN5.out.1, if_neg e1, if_neg e2, if_neg e3]
end
end Go.Proofs.Yteoibolompiohaa
