/- The walk of fill where neither the kid nor its left neighbour has a pair to give. Conditions: as each theorem says. -/
import Derived.Test.YteoibolompiohaaIdxK
namespace Go.Proofs.Yteoibolompiohaa
open Go.RowKit

section
variable {m : Mem} {t : Tr} {w : World} {d a : Nat}
theorem fillT_low {A B : List Nat} {l : Nat} (hk : (t.nd a).ks = A ++ l :: B) (h4 : (t.nd l).ps.length = 4) (hleft : ∀ A' b, A = A' ++ [b] → (t.nd b).ps.length = 4) :
    fillT t a A.length = if A.length + 1 < (t.nd a).ks.length then (if 4 < (t.nd ((t.nd a).ks.getD (A.length + 1) 0)).ps.length then (A.length, rotR t a A.length) else (A.length, joinT t a A.length)) else (A.length - 1, joinT t a (A.length - 1)) := by
  unfold fillT
  have h1 : (t.nd a).ks.getD A.length 0 = l := by rw [hk, getD_at]
  rw [if_neg (by rw [h1]; omega), if_neg]
  rintro ⟨h0, h5⟩
  rcases List.eq_nil_or_concat A with hA | ⟨A', b, hA⟩
  · rw [hA] at h0; simp at h0
  · rw [List.concat_eq_append] at hA
    have h2 : (t.nd a).ks.getD (A.length - 1) 0 = b := by
      rw [hk, hA, List.append_assoc, List.singleton_append, List.length_append, List.length_singleton, Nat.add_sub_cancel, getD_at]
    rw [h2, hleft A' b hA] at h5
    omega
set_option maxRecDepth 100000 in
set_option maxHeartbeats 4000000 in
theorem fill_low (h : TreeAt m t w) (hg : t.Good (d + 1) a) {A B : List Nat} {l : Nat} (hk : (t.nd a).ks = A ++ l :: B) (h1 : 1 ≤ (t.nd a).ps.length) (h4 : (t.nd l).ps.length = 4) (hleft : ∀ A' b, A = A' ++ [b] → (t.nd b).ps.length = 4) (hn : t.nodes.length ≤ 100000) (hf : t.free.length ≤ 100000) :
    Calls Try.prog 45 #[ptrV m.g, .int .i64 (a : Int), .int .i64 (A.length : Int)] w (FillGot m (fillT t a A.length).2 (fillT t a A.length).1 w) := by
  obtain ⟨hgl, hal, haf, hx⟩ := kids_apart hg hk
  have hok := hg.ok
  rw [Tr.ok] at hok
  have halt := hok.1
  have hllt := ok_lt hgl.ok
  have hps9 := hok.2.2.1
  have hks10 := hok.2.1
  have hil : A.length < (t.nd a).ks.length := by rw [hk]; simp
  have hg1 : (t.nd a).ks.getD A.length 0 = l := by rw [hk, getD_at]
  obtain ⟨kb, kc, kpv, hNk, ak0, hGk, hkb⟩ := h.kidsOf a halt (by omega)
  have e0 := hGk.cells inCells_len rfl A.length hil
  rw [show (t.nd a).ks[A.length] = l by simp [hk]] at e0
  have q0 := e0 0 _ rfl
  rw [Nat.mul_one, Nat.add_zero] at q0
  obtain ⟨lb, lc, lkv, hNl, l0, hPLg, hlb⟩ := h.pairsOf l hllt (by omega)
  rw [h4] at l0
  have g0 := h.top.cell (i := 0) rfl
  have haa : (a : Int) < (t.nodes.length : Int) := by omega
  have hll : (l : Int) < (t.nodes.length : Int) := by omega
  have hi0 : (A.length : Int) < ((t.nd a).ks.length : Int) := by omega
  have HL := Lib.hid hleft
  have H := Lib.hid h
  have HK := Lib.hid hk
  have HG := Lib.hid hg
  have HGD := Lib.hid hg1
  have HCE := Lib.hid hGk
  have HOK := Lib.hid hok
  have hAlen : A.length ≤ 9 := by omega
  clear h hk hg e0 hGk hNk hgl hal haf hx hok hNl hPLg hg1 hleft
  unfold ptrV
  go_enter Try.func45, Try.ntmps45
  go_upto_region 2 with (fail)
  go_region
  go_upto_if 38 with (fail)
  go_cut [9] from 37 to 57 (fun _ wx => Below w.heap.size w wx)
  case first =>
    rcases List.eq_nil_or_concat A with hA | ⟨A', b, hA⟩
    · have hA0 : A.length = 0 := by rw [hA]; rfl
      have hlt : ¬ (0 : Int) < (A.length : Int) := by omega
      clear hA hA0
      go_wp2_with (fail)
      go_meet
      case rel => exact (Below.refl _ w).drew
    · have hA0 : A.length = A'.length + 1 := by rw [hA]; simp
      have hkA := HK.out
      rw [hA, List.concat_eq_append, List.append_assoc, List.singleton_append] at hkA
      have hb4 := HL.out A' b (by rw [hA, List.concat_eq_append])
      obtain ⟨hgb, _, _, _⟩ := kids_apart HG.out hkA
      have hblt := ok_lt hgb.ok
      have hil0 : A'.length < (t.nd a).ks.length := by omega
      have e1 := HCE.out.cells inCells_len rfl A'.length hil0
      rw [show (t.nd a).ks[A'.length] = b by simp [hkA]] at e1
      have q1 := e1 0 _ rfl
      rw [Nat.mul_one, Nat.add_zero] at q1
      obtain ⟨bb, bc, bkv, -, b0, -, -⟩ := H.out.pairsOf b hblt (by omega)
      rw [hb4] at b0
      have hbb : (b : Int) < (t.nodes.length : Int) := by omega
      have hlt : (0 : Int) < (A.length : Int) := by omega
      have hw : IntKind.i64.wrap ((A.length : Int) - 1) = (A'.length : Int) := by rw [hA0, show ((A'.length + 1 : Nat) : Int) - 1 = (A'.length : Int) by omega]; exact IntWalk.i64_in _ (by omega)
      have hi2 : (A'.length : Int) < ((t.nd a).ks.length : Int) := by omega
      clear hA hA0 hkA hb4 hgb e1
      go_upto_region 6 with (fail)
      go_region
      go_wp2_with (fail)
      go_meet
      case rel => exact (Below.refl _ w).drew.drew
  case rest =>
    have T2 := H.out.grew hcut
    have U2 : Stp m m w wc := Stp.of_below hcut
    have ak0 := Grew.cell hcut ak0
    have g0 := Grew.cell hcut g0
    have hF := fillT_low HK.out h4 HL.out
    have hw1 : IntKind.i64.wrap ((A.length : Int) + 1) = (A.length : Int) + 1 := IntWalk.i64_in _ (by omega)
    have HT2 := Lib.hid T2
    have HU2 := Lib.hid U2
    have HF := Lib.hid hF
    have HB := Lib.hid hcut
    clear T2 U2 hF hcut q0 l0
    cases B with
    | nil =>
      have hkl := HK.out
      have hlen1 : (t.nd a).ks.length = A.length + 1 := by rw [hkl]; simp
      rcases List.eq_nil_or_concat A with hA | ⟨A', b, hA⟩
      · rw [hA] at hlen1; simp at hlen1; omega
      rw [List.concat_eq_append] at hA
      have hAl : A.length = A'.length + 1 := by rw [hA]; simp
      rw [hA, List.append_assoc, List.singleton_append] at hkl
      have HJ := join_any HT2.out HG.out hkl (by rw [HL.out A' b hA, h4]; omega) hn hf
      unfold ptrV StepSaid at HJ
      have HJ := Lib.hid HJ
      have hE : fillT t a A.length = (A'.length, joinT t a A'.length) := by
        rw [HF.out, if_neg (by omega), hAl, Nat.add_sub_cancel]
      have HE := Lib.hid hE
      have hlt : ¬ (A.length : Int) + 1 < ((t.nd a).ks.length : Int) := by omega
      have hw : IntKind.i64.wrap ((A.length : Int) - 1) = (A'.length : Int) := by rw [hAl, show ((A'.length + 1 : Nat) : Int) - 1 = (A'.length : Int) by omega]; exact IntWalk.i64_in _ (by omega)
      clear hkl hlen1 hA hAl hE
      go_wp2_with (go_at_call 47; (with_reducible refine HJ.out.mono ?_); rintro e w3 ⟨m3, rfl, T3, U3⟩)
      go_ret
      rw [HE.out]
      exact ⟨m3, by simp, T3, HU2.out.trans U3⟩
    | cons c B =>
      have hkA := HK.out
      obtain ⟨hgl, hgc, hal, hac, haf, hlc, hx⟩ := kids_two HG.out hkA
      obtain ⟨n1, n2, n3⟩ := two_ne HG.out hkA
      have hpos := okN_pos HG.out.ok hkA
      have hclt := ok_lt hgc.ok
      have hc9 := okN_ps ((ok_eq t d c).1 hgc.ok).2
      have hkl9 := ok_len hgl.ok
      have hkc9 := ok_len hgc.ok
      have hc4 : 4 ≤ (t.nd c).ps.length := (HOK.out.2.2.2 c (by rw [hkA]; simp)).2
      have hil1 : A.length + 1 < (t.nd a).ks.length := by rw [hkA]; simp
      have hg2 : (t.nd a).ks.getD (A.length + 1) 0 = c := by rw [hkA, getD_at2]
      have e1 := HCE.out.cells inCells_len rfl (A.length + 1) hil1
      rw [show (t.nd a).ks[A.length + 1] = c by simp [hkA]] at e1
      have q1 := e1 0 _ rfl
      rw [Nat.mul_one, Nat.add_zero] at q1
      have q1 := Grew.cell HB.out q1
      obtain ⟨cb, cc, ckv, hNc, c0, hPCg, hcb⟩ := HT2.out.pairsOf c hclt (by omega)
      have hcc : (c : Int) < (t.nodes.length : Int) := by omega
      have hi1 : (A.length : Int) + 1 < ((t.nd a).ks.length : Int) := by omega
      have h01 : (0 : Int) ≤ (A.length : Int) + 1 := by omega
      have ht1 : ((A.length : Int) + 1).toNat = A.length + 1 := by omega
      clear e1 hPCg hNc hal hac haf hlc hx
      by_cases h5 : 4 < (t.nd c).ps.length
      · have h5i : (4 : Int) < ((t.nd c).ps.length : Int) := by omega
        have hE : fillT t a A.length = (A.length, rotR t a A.length) := by rw [HF.out, if_pos hil1, hg2, if_pos h5]
        have HE := Lib.hid hE
        clear hE
        go_upto_region 17 with (fail)
        go_region
        go_upto_region 19 with (fail)
        obtain ⟨mid, hmid⟩ : ∃ x, x = (t.nd a).ps.getD A.length pr0 := ⟨_, rfl⟩
        have hme : (t.nd a).ps[A.length] = mid := by rw [hmid]; simp [List.getD, hpos]
        have T2 := HT2.out.drew
        have U2 := HU2.out.trans (Stp.of_below (m := m) (Below.refl _ wc).drew)
        have HX := Lib.hid (And.intro hgl hgc)
        have HGD2 := Lib.hid hg2
        clear g0 ak0 q1 c0 hgl hgc hkA hg2
        generalize wc.drew = w2 at *
        obtain ⟨PA, hPA⟩ : ∃ x, x = (t.nd a).ps := ⟨_, rfl⟩
        obtain ⟨KA, hKA⟩ : ∃ x, x = (t.nd a).ks := ⟨_, rfl⟩
        obtain ⟨PL, hPL⟩ : ∃ x, x = (t.nd l).ps := ⟨_, rfl⟩
        obtain ⟨KL, hKL⟩ : ∃ x, x = (t.nd l).ks := ⟨_, rfl⟩
        obtain ⟨PC, hPC⟩ : ∃ x, x = (t.nd c).ps := ⟨_, rfl⟩
        obtain ⟨KC, hKC⟩ : ∃ x, x = (t.nd c).ks := ⟨_, rfl⟩
        have HD := Lib.hid (And.intro hPA (And.intro hKA (And.intro hPL (And.intro hKL (And.intro hPC hKC)))))
        obtain ⟨lb, lc, lkv, hNl, l0, hPLg, hlb⟩ := T2.pairsOf l hllt (by omega)
        obtain ⟨ab, ac, akv, hNa, a0, hPAg, hab⟩ := T2.pairsOf a halt (by omega)
        have hac := hPAg.cells prCells_len rfl A.length hpos
        rw [hme] at hac
        have k0 := hac 0 _ rfl
        have k1 := hac 1 _ rfl
        rw [Nat.add_zero] at k0
        have hlab : lb ≠ ab := fun e => by
          obtain ⟨h1, e1⟩ := N_of l hNl
          obtain ⟨h2, e2⟩ := N_of a hNa
          exact T2.psep l a h1 h2 lb n1 (by rw [e1]; rfl) (by rw [e2, e]; rfl)
        rw [← hPL] at hPLg l0 hNl h4
        rw [← hPA] at hPAg a0 hNa hpos hps9
        rw [← hPC] at h5 hc9
        have hpA : (A.length : Int) < (PA.length : Int) := by omega
        have hnbl : (Value.slice (some ⟨lb, 0, none⟩) PL.length lc).ownBlock ≠ some m.nb := fun e => by
          have := hPLg.ne T2.row (by decide) e
          exact this rfl
        have hlb3 : (Value.slice (some ⟨lb, 0, none⟩) PL.length lc).ownBlock ≠ some ab := fun e => hlab (by simpa [Value.ownBlock] using e)
        obtain ⟨g1, cap1, w4, hrun1, hG1, hgr1, hat1, hlt1, hsz1⟩ := append_run (P := Try.prog) (w := w2.drew) 31 Try.underlying31 (.agg #[.string ⟨#[]⟩, .int .i64 0]) 24 infoPr rfl (by omega) hPLg.drew (by omega) mid rfl (prCells_one mid) (by unfold maxLen; omega) (by omega)
        have hgr4 : w2.grownBy w4 (Value.slice (some ⟨lb, 0, none⟩) PL.length lc).ownBlock := (grown_drew _ _).trans hgr1
        have hat4 : (Value.slice (some ⟨g1, 0, none⟩) (PL.length + 1) cap1).ownBlock = (Value.slice (some ⟨lb, 0, none⟩) PL.length lc).ownBlock ∨ ∀ b, (Value.slice (some ⟨g1, 0, none⟩) (PL.length + 1) cap1).ownBlock = some b → w2.heap.size ≤ b := by
          rcases hat1 with h' | h'
          · left; rw [h']; rfl
          · right; intro b hb; simp only [Value.ownBlock, Option.some.injEq] at hb; have : w2.drew.heap.size = w2.heap.size := rfl; omega
        have hS0 : ∀ W, w2.grownBy W (Value.slice (some ⟨lb, 0, none⟩) PL.length lc).ownBlock → (W.cell? ⟨m.nb, l * 2, none⟩ = some (.slice (some ⟨lb, 0, none⟩) PL.length lc) ∧ W.cell? ⟨m.nb, a * 2, none⟩ = some (.slice (some ⟨ab, 0, none⟩) PA.length ac) ∧ W.cell? ⟨ab, A.length * 2, none⟩ = some (.string (bs mid.1)) ∧ W.cell? ⟨ab, A.length * 2 + 1, none⟩ = some (.int .i64 mid.2)) := fun W hg =>
          ⟨hg.cell l0 (fun e => hnbl e.symm), hg.cell a0 (fun e => hnbl e.symm), hg.cell k0 (fun e => hlb3 e.symm), hg.cell k1 (fun e => hlb3 e.symm)⟩
        have HS0 := Lib.hid hS0
        have hnb2 := T2.nb_lt
        have x0 := (HS0.out _ hgr4).1
        have x1 := (frozen_of_block (hgr4.block m.nb hnb2 (fun e => hnbl e.symm)) (l * 2)).trans (T2.thaw (l * 2))
        have hnb4 : m.nb < w4.heap.size := Nat.lt_of_lt_of_le hnb2 hgr4.size
        have HNl := Lib.hid hNl
        have HG := Lib.hid (And.intro hG1 (And.intro hgr4 hat4))
        have HR1 : Hid ((Builtin.append_ #[31, 31] 31 #[.slice (some ⟨lb, 0, none⟩) PL.length lc, .slice (some ⟨w2.heap.size, 0, none⟩) 1 1]).run Try.prog (w2.alloc (.cells #[.string (bs mid.1), .int .i64 mid.2] 37)).drew = .ok (.slice (some ⟨g1, 0, none⟩) (PL.length + 1) cap1) w4) := Lib.hid hrun1
        have HT2' := Lib.hid T2
        have HU2' := Lib.hid U2
        have HMD := Lib.hid hmid
        have H4 := Lib.hid h4
        clear h4 hS0 l0 a0 k0 k1 T2 U2 hPA hKA hPL hKL hPC hKC hNl hNa hPLg hPAg hac hrun1 hG1 hgr1 hat1 hgr4 hat4 hnbl hlb3 hlab hme hmid HT2 HU2 HB HCE
        refine wp_region_last [true, true, true, true, true, true, true, true, true, true, true, true, false, false, false, false, false] (fun W => W.cell? ⟨m.nb, l * 2, none⟩ = some (.slice (some ⟨lb, 0, none⟩) PL.length lc) ∧ W.cell? ⟨m.nb, a * 2, none⟩ = some (.slice (some ⟨ab, 0, none⟩) PA.length ac) ∧ W.cell? ⟨ab, A.length * 2, none⟩ = some (.string (bs mid.1)) ∧ W.cell? ⟨ab, A.length * 2 + 1, none⟩ = some (.int .i64 mid.2)) (by kernel_rfl) (by kernel_rfl) (fun _ _ d _ _ h => by cases d <;> exact h) (HS0.out _ (grown_drew _ _)) ?_
        simp only [List.map, Bool.not_true, Bool.not_false, pickM_yes, pickM_no, pickM_nil]
        repeat ((refine wpHeld_step ?_ rfl (fun W hW => ?_) ?_; rotate_left; focus ((try dsimp only at hW); go_simp; try with_reducible rfl)); simp only [Act.put, List.setIfInBounds_toArray, List.set_cons_zero, List.set_cons_succ])
        refine wpHeld_nil ?_
        refine wpHeavy_step (fun K hK => ?_)
        go_simp
        refine hK.out _ _ (fun _ => HS0.out _ ((World.grownBy_alloc w2 _ _).trans (grown_drew _ _))) ?_
        clear hK K
        (try simp only [Act.put, List.setIfInBounds_toArray, List.set_cons_zero, List.set_cons_succ])
        refine wpHeavy_step (fun K hK => ?_)
        refine step_append_eq (by rfl) (.tmp 167) (.tmp 175) 31 (by rfl) _ _ _ _ (by rfl) (by rfl) HR1.out ?_
        refine hK.out _ _ (fun _ => HS0.out _ HG.out.2.1) ?_
        clear hK K
        (try simp only [Act.put, List.setIfInBounds_toArray, List.set_cons_zero, List.set_cons_succ])
        refine wpHeavy_step (fun K hK => ?_)
        go_simp
        refine hK.out _ _ (fun _ => HS0.out _ HG.out.2.1) ?_
        clear hK K
        (try simp only [Act.put, List.setIfInBounds_toArray, List.set_cons_zero, List.set_cons_succ])
        refine wpHeavy_step (fun K hK => ?_)
        go_simp
        refine hK.out _ _ (fun _ => HS0.out _ HG.out.2.1) ?_
        clear hK K
        (try simp only [Act.put, List.setIfInBounds_toArray, List.set_cons_zero, List.set_cons_succ])
        refine wpHeavy_step (fun K hK => ?_)
        go_simp
        refine hK.out _ _ (fun h' => absurd rfl h') ?_
        clear hK K
        (try simp only [Act.put, List.setIfInBounds_toArray, List.set_cons_zero, List.set_cons_succ])
        refine wpHeavy_nil ?_
        obtain ⟨m3, T3, U3, hnb3, -, -, -, -⟩ := HT2'.out.putP l HNl.out HG.out.2.1 HG.out.1 HG.out.2.2
        generalize w4.setCell ⟨m.nb, l * 2, none⟩ _ = w5 at *
        obtain ⟨t3, ht3⟩ : ∃ t3, t3 = t.put l ⟨PL ++ [mid], KL⟩ := ⟨_, rfl⟩
        rw [← HD.out.2.2.2.1, ← ht3] at T3
        have hl3 : t3.nodes.length = t.nodes.length := by rw [ht3, put_len]
        have hL3 : t3.nd l = ⟨PL ++ [mid], KL⟩ := by rw [ht3, nd_put_same hllt]
        have hC3 : t3.nd c = ⟨PC, KC⟩ := by rw [ht3, nd_put_ne (Ne.symm n3), HD.out.2.2.2.2.1, HD.out.2.2.2.2.2]
        have hA3 : t3.nd a = ⟨PA, KA⟩ := by rw [ht3, nd_put_ne (Ne.symm n1), HD.out.1, HD.out.2.1]
        have h0C : 0 < PC.length := by omega
        obtain ⟨fst, hfst⟩ : ∃ x, x = PC.getD 0 pr0 := ⟨_, rfl⟩
        have hfe : PC[0] = fst := by rw [hfst]; simp [List.getD, h0C]
        obtain ⟨ab, ac, akv, hNa, a0, hPAg, hab⟩ := T3.pairsOf a (by omega) (by rw [hA3]; exact Nat.lt_of_le_of_lt (Nat.zero_le _) hpos)
        obtain ⟨cb, cc, ckv, hNc, c0, hPCg, hcb⟩ := T3.pairsOf c (by omega) (by rw [hC3]; exact h0C)
        rw [hA3] at hNa a0 hPAg
        rw [hC3] at hNc c0 hPCg
        simp only at hNa a0 hPAg hNc c0 hPCg
        rw [hnb3] at a0 c0
        have hcc2 := hPCg.cells prCells_len rfl 0 h0C
        rw [hfe] at hcc2
        have k0 := hcc2 0 _ rfl
        have k1 := hcc2 1 _ rfl
        simp only [Nat.zero_mul, Nat.zero_add, Nat.add_zero] at k0 k1
        have h0Ci : (0 : Int) < (PC.length : Int) := by omega
        have HNa := Lib.hid hNa
        have z2 : ∀ o, w5.frozen? ⟨ab, o, none⟩ = false := fun o => hPAg.thaw rfl o
        have y0 := hPAg.cells prCells_len rfl A.length hpos 0 _ rfl
        have y1 := hPAg.cells prCells_len rfl A.length hpos 1 _ rfl
        rw [Nat.add_zero] at y0
        have hab5 : ab < w5.heap.size := hab
        have HFS := Lib.hid hfst
        have HT3 := Lib.hid T3
        have HU3 := Lib.hid (HU2'.out.trans U3)
        have Ht3 := Lib.hid ht3
        have HL3 := Lib.hid hL3
        have HC3 := Lib.hid hC3
        have HA3 := Lib.hid hA3
        clear HS0 HT2' HU2' HNl HG HR1 x0 x1 hnb4 hnb2 T3 U3 ht3 hL3 hC3 hA3 hfe hfst hNa hNc hPAg hPCg hcc2 hcb
        go_upto_region 20 with (fail)
        refine wp_region_last [true, true, true, true, true, true, true, true, true, true, true, true, false] (fun W => W.cell? ⟨m.nb, c * 2, none⟩ = some (.slice (some ⟨cb, 0, none⟩) PC.length cc) ∧ W.cell? ⟨m.nb, a * 2, none⟩ = some (.slice (some ⟨ab, 0, none⟩) PA.length ac) ∧ W.cell? ⟨cb, 0, none⟩ = some (.string (bs fst.1)) ∧ W.cell? ⟨cb, 1, none⟩ = some (.int .i64 fst.2)) (by kernel_rfl) (by kernel_rfl) (fun _ _ d _ _ h => by cases d <;> exact h) ⟨c0, a0, k0, k1⟩ ?_
        simp only [List.map, Bool.not_true, Bool.not_false, pickM_yes, pickM_no, pickM_nil]
        repeat ((refine wpHeld_step ?_ rfl (fun W hW => ?_) ?_; rotate_left; focus ((try dsimp only at hW); go_simp; try with_reducible rfl)); simp only [Act.put, List.setIfInBounds_toArray, List.set_cons_zero, List.set_cons_succ])
        refine wpHeld_nil ?_
        refine wpHeavy_step (fun K hK => ?_)
        go_simp
        refine hK.out _ _ (fun h' => absurd rfl h') ?_
        clear hK K
        (try simp only [Act.put, List.setIfInBounds_toArray, List.set_cons_zero, List.set_cons_succ])
        refine wpHeavy_nil ?_
        obtain ⟨hia, ea⟩ := N_of a HNa.out
        obtain ⟨T4, U4⟩ := HT3.out.storePair hia (by rw [ea]) A.length (by rw [HA3.out]; exact hpos) fst
        rw [HA3.out] at T4
        simp only at T4
        have T4 : TreeAt m3 (t3.put a ⟨PA.set A.length fst, KA⟩) ((w5.setCell ⟨ab, A.length * 2, none⟩ (.string (bs fst.1))).setCell ⟨ab, A.length * 2 + 1, none⟩ (.int .i64 fst.2)).drew := T4.drew
        have U4 : Stp m3 m3 w5 ((w5.setCell ⟨ab, A.length * 2, none⟩ (.string (bs fst.1))).setCell ⟨ab, A.length * 2 + 1, none⟩ (.int .i64 fst.2)).drew := U4.trans (Stp.of_below ((Below.refl _ _).drew))
        generalize ((w5.setCell ⟨ab, A.length * 2, none⟩ (.string (bs fst.1))).setCell ⟨ab, A.length * 2 + 1, none⟩ (.int .i64 fst.2)).drew = w6 at *
        obtain ⟨t4, ht4⟩ : ∃ t4, t4 = t3.put a ⟨PA.set A.length fst, KA⟩ := ⟨_, rfl⟩
        rw [← ht4] at T4
        have hl4 : t4.nodes.length = t.nodes.length := by rw [ht4, put_len, hl3]
        have hC4 : t4.nd c = ⟨PC, KC⟩ := by rw [ht4, nd_put_ne n2, HC3.out]
        obtain ⟨cb, cc, ckv, hNc, c0, hPCg, hcb⟩ := T4.pairsOf c (by omega) (by rw [hC4]; exact h0C)
        rw [hC4] at hNc c0 hPCg
        simp only at hNc c0 hPCg
        rw [hnb3] at c0
        have z0 : w6.frozen? ⟨m.nb, c * 2, none⟩ = false := hnb3 ▸ T4.thaw _
        have hnb6 : m.nb < w6.heap.size := hnb3 ▸ T4.nb_lt
        have hne4 : some m.nb ≠ some cb := fun e => by
          have := hPCg.ne T4.row (by decide) (b := cb) rfl
          rw [hnb3, ← e] at this
          exact this rfl
        have HNE := Lib.hid hne4
        have hRC := cutPr_any cb PC.length cc PC 0 h0C (by omega) w6 hPCg
        simp only [Int.natCast_zero] at hRC
        have HRC := Lib.hid hRC
        have HT4 := Lib.hid T4
        have HU4 := Lib.hid (HU3.out.trans U4)
        have Ht4 := Lib.hid ht4
        have HC4 := Lib.hid hC4
        have HNc := Lib.hid hNc
        clear hne4 T4 U4 ht4 hC4 hNc hPCg hRC HT3 HU3 HNa a0 y0 y1 k0 k1 z2 hab5 ea hia
        go_upto_region 22 with (go_at_call 44; (with_reducible refine HRC.out.mono ?_); rintro e w7 ⟨rfl, hG7, hgr7⟩; have q0 := hgr7.cell c0 HNE.out; have q1 := (frozen_of_block (hgr7.block m.nb hnb6 HNE.out) (c * 2)).trans z0; have hnb7 : m.nb < w7.heap.size := Nat.lt_of_lt_of_le hnb6 hgr7.size)
        obtain ⟨m5, T5, U5, hnb5', -, -, -, -⟩ := HT4.out.putP c HNc.out hgr7 hG7 (.inl rfl)
        rw [hnb3] at T5 U5
        generalize w7.setCell ⟨m.nb, c * 2, none⟩ _ = w8 at *
        rw [HC4.out] at T5
        simp only at T5
        obtain ⟨t5, ht5⟩ : ∃ t5, t5 = t4.put c ⟨cutL PC 0, KC⟩ := ⟨_, rfl⟩
        rw [← ht5] at T5
        have hnb5 : m5.nb = m.nb := hnb5'.trans hnb3
        have hl5 : t5.nodes.length = t.nodes.length := by rw [ht5, put_len, hl4]
        have hC5 : t5.nd c = ⟨cutL PC 0, KC⟩ := by rw [ht5, nd_put_same (by omega)]
        have hL5 : t5.nd l = ⟨PL ++ [mid], KL⟩ := by rw [ht5, nd_put_ne n3, Ht4.out, nd_put_ne n1, HL3.out]
        have hnd5 : ∀ x, t5.nd x = if x = a then ⟨PA.set A.length fst, KA⟩ else if x = c then ⟨cutL PC 0, KC⟩ else if x = l then ⟨PL ++ [mid], KL⟩ else t.nd x := fun x => by
          rw [ht5]
          by_cases e1 : x = a
          · subst e1; rw [if_pos rfl, nd_put_ne (Ne.symm n2), Ht4.out, nd_put_same (by omega)]
          · rw [if_neg e1]
            by_cases e2 : x = c
            · subst e2; rw [if_pos rfl, nd_put_same (by omega)]
            · rw [if_neg e2, nd_put_ne e2, Ht4.out, nd_put_ne e1, Ht3.out]
              by_cases e3 : x = l
              · subst e3; rw [if_pos rfl, nd_put_same hllt]
              · rw [if_neg e3, nd_put_ne e3]
        have hrest5 : t5.free = t.free ∧ t5.root = t.root ∧ t5.many = t.many := by rw [ht5, Ht4.out, Ht3.out]; exact ⟨rfl, rfl, rfl⟩
        have hR : rotR t a A.length = ((t.put l ⟨PL ++ [mid], KL ++ KC.take 1⟩).put c ⟨PC.drop 1, KC.drop 1⟩).put a ⟨PA.set A.length fst, KA⟩ := by
          unfold rotR
          rw [HGD.out, HGD2.out, ← HMD.out, ← HD.out.1, ← HD.out.2.1, ← HD.out.2.2.1, ← HD.out.2.2.2.1, ← HD.out.2.2.2.2.1, ← HD.out.2.2.2.2.2, ← HFS.out]
        have HR := Lib.hid hR
        have HN5 := Lib.hid (And.intro hnd5 hrest5)
        have HT5 := Lib.hid T5
        have HU5 := Lib.hid (HU4.out.trans U5)
        have HL5 := Lib.hid hL5
        have HC5 := Lib.hid hC5
        have Hnb5 := Lib.hid hnb5
        obtain ⟨cpv, ckv, hNc, -, c1, -, hKc⟩ := T5.node c (by omega)
        obtain ⟨ca, cc3, rfl⟩ := hKc.slice
        rw [hC5] at hKc hNc c1
        simp only at hKc hNc c1
        rw [hnb5] at c1
        have hKCs : KC.length = 0 ∨ KC.length = PC.length + 1 := by
          rw [HD.out.2.2.2.2.2, HD.out.2.2.2.2.1]
          rcases hkc9 with ⟨h', _⟩ | ⟨e', _, h'⟩
          · exact .inl h'
          · exact .inr h'
        have HkL := Lib.hid hkl9
        clear T5 U5 ht5 hL5 hC5 hnd5 hrest5 hR HT4 HU4 HNc z0 hnb6 hkl9 hkc9 HRC hG7 hgr7 q0 q1 c0 hnb7 HNE
        rcases hKCs with h0 | h0
        · have hKC0 : KC = [] := List.eq_nil_of_length_eq_zero h0
          have HF := Lib.hid hKC0
          rw [h0] at c1
          clear h0 hKC0 hKc hNc
          go_wp2_with (fail)
          go_ret
          rw [HE.out]
          refine ⟨m5, rfl, ?_, HU5.out⟩
          show TreeAt m5 (rotR t a A.length) _
          rw [HR.out]
          refine HT5.out.same (by rw [put_len, put_len, put_len, hl5]) (fun x _ => ?_) HN5.out.2.1.symm HN5.out.2.2.1.symm HN5.out.2.2.2.symm
          rw [HN5.out.1 x]
          by_cases e1 : x = a
          · subst e1; rw [if_pos rfl, nd_put_same (by rw [put_len, put_len]; exact halt)]
          · rw [if_neg e1, nd_put_ne e1]
            by_cases e2 : x = c
            · subst e2; rw [if_pos rfl, nd_put_same (by rw [put_len]; exact hclt), HF.out]; simp [cutL]
            · rw [if_neg e2, nd_put_ne e2]
              by_cases e3 : x = l
              · subst e3; rw [if_pos rfl, nd_put_same hllt, HF.out]; simp
              · rw [if_neg e3, nd_put_ne e3]
        · clear c1 hKc hNc
          have h0K : 0 < KC.length := by omega
          obtain ⟨xk, hxk⟩ : ∃ x, x = KC.getD 0 0 := ⟨_, rfl⟩
          have hxe : KC[0] = xk := by rw [hxk]; simp [List.getD, h0K]
          obtain ⟨ckb, ckc, cpv2, hNc, c1, hKg, hckb⟩ := HT5.out.kidsOf c (by omega) (by rw [HC5.out]; exact h0K)
          rw [HC5.out] at hNc c1 hKg
          simp only at hNc c1 hKg
          rw [Hnb5.out] at c1
          obtain ⟨lpv, lkv3, hNl, -, l1, -, hKl⟩ := HT5.out.node l (by omega)
          obtain ⟨la, lc3, rfl⟩ := hKl.slice
          rw [HL5.out] at hKl hNl l1
          simp only at hKl hNl l1
          rw [Hnb5.out] at l1
          have hx0 := hKg.cells inCells_len rfl 0 h0K
          rw [hxe] at hx0
          have k0 := hx0 0 _ rfl
          simp only [Nat.zero_mul, Nat.zero_add] at k0
          have hKL10 : KL.length ≤ 1000 := by
            have h2 := HkL.out
            rw [← HD.out.2.2.2.1, ← HD.out.2.2.1] at h2
            have := H4.out
            rcases h2 with ⟨h', _⟩ | ⟨e', _, h'⟩
            · omega
            · omega
          have hKCi : (0 : Int) < (KC.length : Int) := by omega
          have hKC10 : KC.length ≤ 1000 := by omega
          have hnbl : (Value.slice la KL.length lc3).ownBlock ≠ some m.nb := fun e => by
            have := hKl.ne HT5.out.row (by decide) e
            rw [Hnb5.out] at this
            exact this rfl
          have hclk : (Value.slice la KL.length lc3).ownBlock ≠ some ckb := fun e => by
            obtain ⟨h1, e1⟩ := N_of l hNl
            obtain ⟨h2, e2⟩ := N_of c hNc
            exact HT5.out.ksep l c h1 h2 ckb n3 (by rw [e1]; exact e) (by rw [e2]; rfl)
          obtain ⟨g2, cap2, w9, hrun2, hG2, hgr2, hat2, hlt2, hsz2⟩ := append_run (P := Try.prog) (w := w8.drew) 58 Try.underlying58 (.int .i64 0) 8 infoIn rfl (by omega) hKl.drew (by omega) xk rfl (inCells_one xk) (by unfold maxLen; omega) (by omega)
          have hgr9 : w8.grownBy w9 (Value.slice la KL.length lc3).ownBlock := (grown_drew _ _).trans hgr2
          have hat9 : (Value.slice (some ⟨g2, 0, none⟩) (KL.length + 1) cap2).ownBlock = (Value.slice la KL.length lc3).ownBlock ∨ ∀ b, (Value.slice (some ⟨g2, 0, none⟩) (KL.length + 1) cap2).ownBlock = some b → w8.heap.size ≤ b := by
            rcases hat2 with h' | h'
            · left; rw [h']; rfl
            · right; intro b hb; simp only [Value.ownBlock, Option.some.injEq] at hb; have : w8.drew.heap.size = w8.heap.size := rfl; omega
          have HS0 := Lib.hid (show ∀ W, w8.grownBy W (Value.slice la KL.length lc3).ownBlock → (W.cell? ⟨m.nb, l * 2 + 1, none⟩ = some (.slice la KL.length lc3) ∧ W.cell? ⟨m.nb, c * 2 + 1, none⟩ = some (.slice (some ⟨ckb, 0, none⟩) KC.length ckc) ∧ W.cell? ⟨ckb, 0, none⟩ = some (.int .i64 (xk : Int))) from fun W hg => ⟨hg.cell l1 (fun e => hnbl e.symm), hg.cell c1 (fun e => hnbl e.symm), hg.cell k0 (fun e => hclk e.symm)⟩)
          have hnb8 : m.nb < w8.heap.size := Hnb5.out ▸ HT5.out.nb_lt
          have x0 := (HS0.out _ hgr9).1
          have x1 := (frozen_of_block (hgr9.block m.nb hnb8 (fun e => hnbl e.symm)) (l * 2 + 1)).trans (show w8.frozen? ⟨m.nb, l * 2 + 1, none⟩ = false from Hnb5.out ▸ HT5.out.thaw _)
          have hnb9 : m.nb < w9.heap.size := Nat.lt_of_lt_of_le hnb8 hgr9.size
          have HNl := Lib.hid hNl
          have HG := Lib.hid (And.intro hG2 (And.intro hgr9 hat9))
          have HR1 : Hid ((Builtin.append_ #[58, 58] 58 #[.slice la KL.length lc3, .slice (some ⟨w8.heap.size, 0, none⟩) 1 1]).run Try.prog (w8.alloc (.cells #[.int .i64 (xk : Int)] 3)).drew = .ok (.slice (some ⟨g2, 0, none⟩) (KL.length + 1) cap2) w9) := Lib.hid hrun2
          have HXK := Lib.hid hxk
          have H0 := Lib.hid h0
          clear hx0 hxe hxk hNc hNl hKg hKl hnbl hclk k0 l1 h0 hrun2 hG2 hgr2 hgr9 hat2 hat9
          go_upto_region 23 with (fail)
          clear c1
          refine wp_region_last [true, true, true, true, true, true, true, true, true, true, true, false, false, false, false, false] (fun W => W.cell? ⟨m.nb, l * 2 + 1, none⟩ = some (.slice la KL.length lc3) ∧ W.cell? ⟨m.nb, c * 2 + 1, none⟩ = some (.slice (some ⟨ckb, 0, none⟩) KC.length ckc) ∧ W.cell? ⟨ckb, 0, none⟩ = some (.int .i64 (xk : Int))) (by kernel_rfl) (by kernel_rfl) (fun _ _ d _ _ h => by cases d <;> exact h) (HS0.out _ (grown_drew _ _)) ?_
          simp only [List.map, Bool.not_true, Bool.not_false, pickM_yes, pickM_no, pickM_nil]
          repeat ((refine wpHeld_step ?_ rfl (fun W hW => ?_) ?_; rotate_left; focus ((try dsimp only at hW); go_simp; try with_reducible rfl)); simp only [Act.put, List.setIfInBounds_toArray, List.set_cons_zero, List.set_cons_succ])
          refine wpHeld_nil ?_
          refine wpHeavy_step (fun K hK => ?_)
          go_simp
          refine hK.out _ _ (fun _ => HS0.out _ ((World.grownBy_alloc w8 _ _).trans (grown_drew _ _))) ?_
          clear hK K
          (try simp only [Act.put, List.setIfInBounds_toArray, List.set_cons_zero, List.set_cons_succ])
          refine wpHeavy_step (fun K hK => ?_)
          refine step_append_eq (by rfl) (.tmp 209) (.tmp 216) 58 (by rfl) _ _ _ _ (by rfl) (by rfl) HR1.out ?_
          refine hK.out _ _ (fun _ => HS0.out _ HG.out.2.1) ?_
          clear hK K
          (try simp only [Act.put, List.setIfInBounds_toArray, List.set_cons_zero, List.set_cons_succ])
          refine wpHeavy_step (fun K hK => ?_)
          go_simp
          refine hK.out _ _ (fun _ => HS0.out _ HG.out.2.1) ?_
          clear hK K
          (try simp only [Act.put, List.setIfInBounds_toArray, List.set_cons_zero, List.set_cons_succ])
          refine wpHeavy_step (fun K hK => ?_)
          go_simp
          refine hK.out _ _ (fun _ => HS0.out _ HG.out.2.1) ?_
          clear hK K
          (try simp only [Act.put, List.setIfInBounds_toArray, List.set_cons_zero, List.set_cons_succ])
          refine wpHeavy_step (fun K hK => ?_)
          go_simp
          refine hK.out _ _ (fun h' => absurd rfl h') ?_
          clear hK K
          (try simp only [Act.put, List.setIfInBounds_toArray, List.set_cons_zero, List.set_cons_succ])
          refine wpHeavy_nil ?_
          obtain ⟨m6, T6, U6, hnb6', -, -, -, -⟩ := HT5.out.putK l HNl.out HG.out.2.1 HG.out.1 HG.out.2.2
          rw [Hnb5.out] at T6 U6
          generalize w9.setCell ⟨m.nb, l * 2 + 1, none⟩ _ = w10 at *
          rw [HL5.out] at T6
          simp only at T6
          obtain ⟨t6, ht6⟩ : ∃ t6, t6 = t5.put l ⟨PL ++ [mid], KL ++ [xk]⟩ := ⟨_, rfl⟩
          rw [← ht6] at T6
          have hnb6 : m6.nb = m.nb := hnb6'.trans Hnb5.out
          have hl6 : t6.nodes.length = t.nodes.length := by rw [ht6, put_len, hl5]
          have hC6 : t6.nd c = ⟨cutL PC 0, KC⟩ := by rw [ht6, nd_put_ne (Ne.symm n3), HC5.out]
          obtain ⟨ckb, ckc, cpv3, hNc, c1, hKg, hckb⟩ := T6.kidsOf c (by omega) (by rw [hC6]; exact h0K)
          rw [hC6] at hNc c1 hKg
          simp only at hNc c1 hKg
          rw [hnb6] at c1
          have hRK := cutIn_any ckb KC.length ckc KC 0 h0K (by omega) w10 hKg
          simp only [Int.natCast_zero] at hRK
          have HRK := Lib.hid hRK
          have z1 : w10.frozen? ⟨m.nb, c * 2 + 1, none⟩ = false := hnb6 ▸ T6.thaw _
          have hnb10 : m.nb < w10.heap.size := hnb6 ▸ T6.nb_lt
          have hne5 : some m.nb ≠ some ckb := fun e => by
            have := hKg.ne T6.row (by decide) (b := ckb) rfl
            rw [hnb6, ← e] at this
            exact this rfl
          have HNE5 := Lib.hid hne5
          have HT6 := Lib.hid T6
          have HU6 := Lib.hid (HU5.out.trans U6)
          have Ht6 := Lib.hid ht6
          have HC6 := Lib.hid hC6
          have HNc := Lib.hid hNc
          clear T6 U6 ht6 hC6 hNc hKg HT5 HU5 HS0 HG HR1 HNl x0 x1 hnb9 hnb8 hRK hne5
          go_upto_region 25 with (go_at_call 48; (with_reducible refine HRK.out.mono ?_); rintro e w11 ⟨rfl, hG11, hgr11⟩; have q0 := hgr11.cell c1 HNE5.out; have q1 := (frozen_of_block (hgr11.block m.nb hnb10 HNE5.out) (c * 2 + 1)).trans z1; have hnb11 : m.nb < w11.heap.size := Nat.lt_of_lt_of_le hnb10 hgr11.size)
          go_wp2_with (fail)
          go_ret
          obtain ⟨m7, T7, U7, -, -, -, -, -⟩ := HT6.out.putK c HNc.out hgr11 hG11 (.inl rfl)
          rw [hnb6] at T7 U7
          rw [HC6.out] at T7
          simp only at T7
          rw [HE.out]
          refine ⟨m7, rfl, ?_, HU6.out.trans U7⟩
          show TreeAt m7 (rotR t a A.length) _
          rw [HR.out]
          refine T7.same (by rw [put_len, put_len, put_len, put_len, hl6]) (fun x _ => ?_) (by rw [Ht6.out]; exact HN5.out.2.1.symm) (by rw [Ht6.out]; exact HN5.out.2.2.1.symm) (by rw [Ht6.out]; exact HN5.out.2.2.2.symm)
          by_cases e1 : x = a
          · subst e1; rw [nd_put_same (by rw [put_len, put_len]; exact halt), nd_put_ne (Ne.symm n2), Ht6.out, nd_put_ne (Ne.symm n1), HN5.out.1, if_pos rfl]
          · rw [nd_put_ne e1]
            by_cases e2 : x = c
            · subst e2; rw [nd_put_same (by rw [put_len]; exact hclt), nd_put_same (by omega)]; simp [cutL]
            · rw [nd_put_ne e2, nd_put_ne e2, Ht6.out]
              by_cases e3 : x = l
              · subst e3
                rw [nd_put_same hllt, nd_put_same (by omega)]
                have hd : KC.take 1 = [xk] := by
                  rw [HXK.out]
                  cases KC with
                  | nil => simp at h0K
                  | cons y ys => rfl
                rw [hd]
              · rw [nd_put_ne e3, nd_put_ne e3, HN5.out.1, if_neg e1, if_neg e2, if_neg e3]
      · have h5i : ¬ (4 : Int) < ((t.nd c).ps.length : Int) := by omega
        have hE : fillT t a A.length = (A.length, joinT t a A.length) := by rw [HF.out, if_pos hil1, hg2, if_neg h5]
        have HE := Lib.hid hE
        have HJ := join_any HT2.out.drew HG.out hkA (by omega) hn hf
        unfold ptrV StepSaid at HJ
        have HJ := Lib.hid HJ
        clear hE hgl hgc hkA
        go_upto_region 17 with (fail)
        go_region
        go_wp2_with (go_at_call 47; (with_reducible refine HJ.out.mono ?_); rintro e w3 ⟨m3, rfl, T3, U3⟩)
        go_ret
        rw [HE.out]
        exact ⟨m3, rfl, T3, (HU2.out.trans (Stp.of_below ((Below.refl _ _).drew))).trans U3⟩
end
end Go.Proofs.Yteoibolompiohaa
