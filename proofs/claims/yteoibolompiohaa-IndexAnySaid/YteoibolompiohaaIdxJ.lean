/- The walk of join. Conditions: as each theorem says. -/
import Derived.Test.YteoibolompiohaaIdxE
import Derived.Test.YteoibolompiohaaLast
namespace Go.Proofs.Yteoibolompiohaa
open Go.RowKit

section
variable {m : Mem} {t : Tr} {w : World} {d a : Nat}
/-- A slice that a node holds: nil has no room. -/
theorem Grow.nilcap {α : Type} {T : TypeId} {k : Nat} {enc : α → List Value} {base : Nat} {L : List α} {w : World} {sp : Option Addr} {n cap : Nat} (h : Grow T k enc base (.slice sp n cap) L w) : sp = none → cap = 0 := by
  rintro rfl
  rcases h.2 with ⟨h', _⟩ | ⟨g', cap', cur, h', _⟩
  · simp only [Value.slice.injEq] at h'; exact h'.2.2
  · simp at h'
set_option maxRecDepth 100000 in
set_option maxHeartbeats 4000000 in
theorem join_any (h : TreeAt m t w) (hg : t.Good (d + 1) a) {A B : List Nat} {l c : Nat} (hk : (t.nd a).ks = A ++ l :: c :: B) (h9 : (t.nd l).ps.length + (t.nd c).ps.length + 1 ≤ 9) (hn : t.nodes.length ≤ 100000) (hf : t.free.length ≤ 100000) :
    Calls Try.prog 47 #[ptrV m.g, .int .i64 (a : Int), .int .i64 (A.length : Int)] w (StepSaid m (joinT t a A.length) w) := by
  obtain ⟨hgl, hgc, hal, hac, haf, hlc, hx⟩ := kids_two hg hk
  obtain ⟨n1, n2, n3⟩ := two_ne hg hk
  have hpos := okN_pos hg.ok hk
  have hok := hg.ok
  rw [Tr.ok] at hok
  have halt := hok.1
  have hllt := ok_lt hgl.ok
  have hclt := ok_lt hgc.ok
  have hl4 := (hok.2.2.2 l (by rw [hk]; simp)).2
  have hc4 := (hok.2.2.2 c (by rw [hk]; simp)).2
  have hps9 := hok.2.2.1
  have hks10 := hok.2.1
  have hil : A.length < (t.nd a).ks.length := by rw [hk]; simp
  have hil1 : A.length + 1 < (t.nd a).ks.length := by rw [hk]; simp
  have hkl9 := ok_len hgl.ok
  have hkc9 := ok_len hgc.ok
  have hg1 : (t.nd a).ks.getD A.length 0 = l := by rw [hk, getD_at]
  have hg2 : (t.nd a).ks.getD (A.length + 1) 0 = c := by rw [hk, getD_at2]
  obtain ⟨mid, hmid⟩ : ∃ x, x = (t.nd a).ps.getD A.length pr0 := ⟨_, rfl⟩
  have hme : (t.nd a).ps[A.length] = mid := by rw [hmid]; simp [List.getD, hpos]
  obtain ⟨kb, kc, kpv, hNk, ak0, hGk, hkb⟩ := h.kidsOf a halt (by omega)
  have e0 := hGk.cells inCells_len rfl A.length hil
  have e1 := hGk.cells inCells_len rfl (A.length + 1) hil1
  rw [show (t.nd a).ks[A.length] = l by simp [hk]] at e0
  rw [show (t.nd a).ks[A.length + 1] = c by simp [hk]] at e1
  have q0 := e0 0 _ rfl
  have q1 := e1 0 _ rfl
  rw [Nat.mul_one, Nat.add_zero] at q0 q1
  have g0 := h.top.cell (i := 0) rfl
  have haa : (a : Int) < (t.nodes.length : Int) := by omega
  have hll : (l : Int) < (t.nodes.length : Int) := by omega
  have hcc : (c : Int) < (t.nodes.length : Int) := by omega
  have hi0 : (A.length : Int) < ((t.nd a).ks.length : Int) := by omega
  have hi1 : (A.length : Int) + 1 < ((t.nd a).ks.length : Int) := by omega
  have hw : IntKind.i64.wrap ((A.length : Int) + 1) = (A.length : Int) + 1 := IntWalk.i64_in _ (by omega)
  have h01 : (0 : Int) ≤ (A.length : Int) + 1 := by omega
  have ht1 : ((A.length : Int) + 1).toNat = A.length + 1 := by omega
  have H := Lib.hid h
  have HK := Lib.hid hk
  have HG := Lib.hid hg
  have HGD := Lib.hid (And.intro hg1 hg2)
  have HME := Lib.hid hme
  have HMD := Lib.hid hmid
  clear h hk hg hg1 hg2 hme hmid e0 e1 hGk hNk hgl hgc hal hac haf hlc hx hok
  unfold ptrV
  go_enter Try.func47, Try.ntmps47
  go_upto_region 1 with (fail)
  go_region
  go_upto_region 2 with (fail)
  go_region
  go_upto_region 3 with (fail)
  have T2 := H.out.drew.drew
  have U2 : Stp m m w w.drew.drew := Stp.of_below ((Below.refl _ w).drew.drew)
  clear g0 ak0 q0 q1
  generalize w.drew.drew = w2 at *
  obtain ⟨PA, hPA⟩ : ∃ x, x = (t.nd a).ps := ⟨_, rfl⟩
  obtain ⟨KA, hKA⟩ : ∃ x, x = (t.nd a).ks := ⟨_, rfl⟩
  obtain ⟨PL, hPL⟩ : ∃ x, x = (t.nd l).ps := ⟨_, rfl⟩
  obtain ⟨KL, hKL⟩ : ∃ x, x = (t.nd l).ks := ⟨_, rfl⟩
  obtain ⟨PC, hPC⟩ : ∃ x, x = (t.nd c).ps := ⟨_, rfl⟩
  obtain ⟨KC, hKC⟩ : ∃ x, x = (t.nd c).ks := ⟨_, rfl⟩
  have HD := Lib.hid (And.intro hPA (And.intro hKA (And.intro hPL (And.intro hKL (And.intro hPC hKC)))))
  have HU2 := Lib.hid U2
  have HT2 := Lib.hid T2
  go_cut [] from 44 to 64 (fun wc => ∃ m3, TreeAt m3 (t.put l ⟨PL ++ mid :: PC, KL⟩) wc ∧ Stp m m3 w wc ∧ m3.nb = m.nb)
  case first =>
    obtain ⟨lb, lc, lkv, hNl, l0, hPLg, hlb⟩ := T2.pairsOf l hllt (by omega)
    obtain ⟨cb, cc, ckv, hNc, c0, hPCg, hcb⟩ := T2.pairsOf c hclt (by omega)
    obtain ⟨ab, ac, akv, hNa, a0, hPAg, hab⟩ := T2.pairsOf a halt (by omega)
    have hac := hPAg.cells prCells_len rfl A.length hpos
    rw [HME.out] at hac
    have k0 := hac 0 _ rfl
    have k1 := hac 1 _ rfl
    rw [Nat.add_zero] at k0
    have hcl : lb ≠ cb := fun e => by
      obtain ⟨h1, e1⟩ := N_of l hNl
      obtain ⟨h2, e2⟩ := N_of c hNc
      exact T2.psep l c h1 h2 lb n3 (by rw [e1]; rfl) (by rw [e2, e]; rfl)
    rw [← hPA] at hPAg a0 hNa hpos hps9
    rw [← hPL] at hPLg l0 hNl hl4 h9
    rw [← hPC] at hPCg c0 hNc hc4 h9
    have hpA : (A.length : Int) < (PA.length : Int) := by omega
    -- the two appends
    obtain ⟨g1, cap1, w3, hrun1, hG1, hgr1, hat1, hlt1, hsz1⟩ := append_run (P := Try.prog) (w := w2.drew) 31 Try.underlying31 (.agg #[.string ⟨#[]⟩, .int .i64 0]) 24 infoPr rfl (by omega) hPLg.drew (by omega) mid rfl (prCells_one mid) (by unfold maxLen; omega) (by omega)
    have hcb3 : (Value.slice (some ⟨lb, 0, none⟩) PL.length lc).ownBlock ≠ some cb := fun e => hcl (by simpa [Value.ownBlock] using e)
    have hPC3 := (hPCg.drew).kept2 hgr1 (fun b hb e => hcb3 (by rw [e, ← hb]; rfl))
    obtain ⟨v2, w4, hrun2, hG2, hgr2, hat2⟩ := append_all_run (P := Try.prog) 31 Try.underlying31 (.agg #[.string ⟨#[]⟩, .int .i64 0]) 24 infoPr rfl (by omega) hG1 (by omega) prCells_len prCells_one (some ⟨cb, 0, none⟩) PC.length cc (hPC3.rows prCells_len) (fun e => by cases e) (by rw [List.length_append]; unfold maxLen; simp; omega) (by rw [List.length_append]; simp; omega)
    have hgr4 : w2.grownBy w4 (Value.slice (some ⟨lb, 0, none⟩) PL.length lc).ownBlock := grown_step ((grown_drew _ _).trans hgr1) hgr2 (by
      rcases hat1 with h' | h'
      · left; rw [h']; rfl
      · right; intro b hb; simp only [Value.ownBlock, Option.some.injEq] at hb; have : w2.drew.heap.size = w2.heap.size := rfl; omega)
    have hat4 : v2.ownBlock = (Value.slice (some ⟨lb, 0, none⟩) PL.length lc).ownBlock ∨ ∀ b, v2.ownBlock = some b → w2.heap.size ≤ b := by
      have e0 : w2.drew.heap.size = w2.heap.size := rfl
      rcases hat2 with h' | h'
      · rcases hat1 with h2 | h2
        · left; rw [h', h2]; rfl
        · right; intro b hb; rw [h'] at hb; simp only [Value.ownBlock, Option.some.injEq] at hb; omega
      · right; intro b hb; have := h' b hb; omega
    have hnbl : (Value.slice (some ⟨lb, 0, none⟩) PL.length lc).ownBlock ≠ some m.nb := fun e => by
      have := hPLg.ne T2.row (by decide) e
      exact this rfl
    have hnb2 := T2.nb_lt
    have hlab : lb ≠ ab := fun e => by
      obtain ⟨h1, e1⟩ := N_of l hNl
      obtain ⟨h2, e2⟩ := N_of a hNa
      exact T2.psep l a h1 h2 lb n1 (by rw [e1]; rfl) (by rw [e2, e]; rfl)
    have hnbab : m.nb ≠ ab := fun e => hPAg.ne T2.row (by decide) rfl (by rw [← e]; rfl)
    have hlc2 : l * 2 ≠ c * 2 := fun e => n3 (Nat.eq_of_mul_eq_mul_right (by decide) e)
    have hla2 : l * 2 ≠ a * 2 := fun e => n1 (Nat.eq_of_mul_eq_mul_right (by decide) e)
    have hlb3 : (Value.slice (some ⟨lb, 0, none⟩) PL.length lc).ownBlock ≠ some ab := fun e => hlab (by simpa [Value.ownBlock] using e)
    have x0 := hgr4.cell l0 (fun e => hnbl e.symm)
    have x1 := (frozen_of_block (hgr4.block m.nb hnb2 (fun e => hnbl e.symm)) (l * 2)).trans (T2.thaw (l * 2))
    have hnb4 : m.nb < w4.heap.size := Nat.lt_of_lt_of_le hnb2 hgr4.size
    have HNl := Lib.hid hNl
    have HG2 := Lib.hid (And.intro hG2 (And.intro hgr4 hat4))
    have HR1 : Hid ((Builtin.append_ #[31, 31] 31 #[.slice (some ⟨lb, 0, none⟩) PL.length lc, .slice (some ⟨w2.heap.size, 0, none⟩) 1 1]).run Try.prog (w2.alloc (.cells #[.string (bs mid.1), .int .i64 mid.2] 37)).drew = .ok (.slice (some ⟨g1, 0, none⟩) (PL.length + 1) cap1) w3) := Lib.hid hrun1
    have HR2 := Lib.hid hrun2
    have hslice : ∃ va vn vc, v2 = .slice va vn vc := by
      obtain ⟨a', c', hv'⟩ := hG2.slice
      exact ⟨_, _, _, hv'⟩
    obtain ⟨va, vn, vc, rfl⟩ := hslice
    have hS0 : ∀ W, w2.grownBy W (Value.slice (some ⟨lb, 0, none⟩) PL.length lc).ownBlock → (W.cell? ⟨m.nb, l * 2, none⟩ = some (.slice (some ⟨lb, 0, none⟩) PL.length lc) ∧ W.cell? ⟨m.nb, a * 2, none⟩ = some (.slice (some ⟨ab, 0, none⟩) PA.length ac) ∧ W.cell? ⟨ab, A.length * 2, none⟩ = some (.string (bs mid.1)) ∧ W.cell? ⟨ab, A.length * 2 + 1, none⟩ = some (.int .i64 mid.2) ∧ W.cell? ⟨m.nb, c * 2, none⟩ = some (.slice (some ⟨cb, 0, none⟩) PC.length cc)) := fun W hg =>
      ⟨hg.cell l0 (fun e => hnbl e.symm), hg.cell a0 (fun e => hnbl e.symm), hg.cell k0 (fun e => hlb3 e.symm), hg.cell k1 (fun e => hlb3 e.symm), hg.cell c0 (fun e => hnbl e.symm)⟩
    have HS0 := Lib.hid hS0
    have HG4 := Lib.hid (And.intro ((grown_drew w2 (Value.slice (some ⟨lb, 0, none⟩) PL.length lc).ownBlock).trans hgr1) hgr4)
    clear hS0 l0 a0 k0 k1 c0 T2 U2 hPA hKA hPL hKL hPC hKC hNl hNc hNa hPLg hPCg hPAg hac hrun1 hrun2 hG1 hG2 hgr1 hgr2 hat1 hat2 hgr4 hat4 hPC3 hcb3 hnbl hcl
    refine wp_region_last [true, true, true, true, true, true, true, true, true, true, true, true, false, false, true, true, true, true, false, false, false, false] (fun W => W.cell? ⟨m.nb, l * 2, none⟩ = some (.slice (some ⟨lb, 0, none⟩) PL.length lc) ∧ W.cell? ⟨m.nb, a * 2, none⟩ = some (.slice (some ⟨ab, 0, none⟩) PA.length ac) ∧ W.cell? ⟨ab, A.length * 2, none⟩ = some (.string (bs mid.1)) ∧ W.cell? ⟨ab, A.length * 2 + 1, none⟩ = some (.int .i64 mid.2) ∧ W.cell? ⟨m.nb, c * 2, none⟩ = some (.slice (some ⟨cb, 0, none⟩) PC.length cc)) (by kernel_rfl) ?hB (fun _ _ d _ _ h => by cases d <;> exact h) (HS0.out _ (grown_drew _ _)) ?_
    case hB => kernel_rfl
    simp only [List.map, Bool.not_true, Bool.not_false, pickM_yes, pickM_no, pickM_nil]
    repeat ((refine wpHeld_step ?_ rfl (fun W hW => ?_) ?_; rotate_left; focus ((try dsimp only at hW); go_simp; try with_reducible rfl)); simp only [Act.put, List.setIfInBounds_toArray, List.set_cons_zero, List.set_cons_succ])
    refine wpHeld_nil ?_
    refine wpHeavy_step (fun K hK => ?_)
    go_simp
    refine hK.out _ _ (fun _ => HS0.out _ ((World.grownBy_alloc w2 _ _).trans (grown_drew _ _))) ?_
    clear hK K
    (try simp only [Act.put, List.setIfInBounds_toArray, List.set_cons_zero, List.set_cons_succ])
    refine wpHeavy_step (fun K hK => ?_)
    refine step_append_eq (by rfl) (.tmp 48) (.tmp 56) 31 (by rfl) _ _ _ _ (by rfl) (by rfl) HR1.out ?_
    refine hK.out _ _ (fun _ => HS0.out _ HG4.out.1) ?_
    clear hK K
    (try simp only [Act.put, List.setIfInBounds_toArray, List.set_cons_zero, List.set_cons_succ])
    refine wpHeavy_step (fun K hK => ?_)
    refine step_append_eq (by rfl) (.tmp 57) (.tmp 61) 31 (by rfl) _ _ _ _ (by rfl) (by rfl) HR2.out ?_
    refine hK.out _ _ (fun _ => HS0.out _ HG4.out.2) ?_
    clear hK K
    (try simp only [Act.put, List.setIfInBounds_toArray, List.set_cons_zero, List.set_cons_succ])
    refine wpHeavy_step (fun K hK => ?_)
    go_simp
    refine hK.out _ _ (fun _ => HS0.out _ HG4.out.2) ?_
    clear hK K
    (try simp only [Act.put, List.setIfInBounds_toArray, List.set_cons_zero, List.set_cons_succ])
    refine wpHeavy_step (fun K hK => ?_)
    go_simp
    refine hK.out _ _ (fun _ => HS0.out _ HG4.out.2) ?_
    clear hK K
    (try simp only [Act.put, List.setIfInBounds_toArray, List.set_cons_zero, List.set_cons_succ])
    refine wpHeavy_step (fun K hK => ?_)
    go_simp
    refine hK.out _ _ (fun h' => absurd rfl h') ?_
    clear hK K
    (try simp only [Act.put, List.setIfInBounds_toArray, List.set_cons_zero, List.set_cons_succ])
    refine wpHeavy_nil ?_
    go_wp2_with (fail)
    go_meet
    case rel =>
      obtain ⟨m3, T3, U3, hnb3, -, -, -, -⟩ := HT2.out.putP l HNl.out HG2.out.2.1 HG2.out.1 HG2.out.2.2
      refine ⟨m3, ?_, HU2.out.trans U3, hnb3⟩
      rw [← HD.out.2.2.2.1] at T3
      simpa using T3
  case rest =>
    obtain ⟨m3, T3, U3, hnb3⟩ := hcut
    obtain ⟨t3, ht3⟩ : ∃ t3, t3 = t.put l ⟨PL ++ mid :: PC, KL⟩ := ⟨_, rfl⟩
    rw [← ht3] at T3
    have hl3 : t3.nodes.length = t.nodes.length := by rw [ht3, put_len]
    have hL3 : t3.nd l = ⟨PL ++ mid :: PC, KL⟩ := by rw [ht3, nd_put_same hllt]
    have hC3 : t3.nd c = ⟨PC, KC⟩ := by rw [ht3, nd_put_ne (Ne.symm n3), HD.out.2.2.2.2.1, HD.out.2.2.2.2.2]
    have hA3 : t3.nd a = ⟨PA, KA⟩ := by rw [ht3, nd_put_ne (Ne.symm n1), HD.out.1, HD.out.2.1]
    obtain ⟨lpv, lkv, hNl, l0, l1, hPl, hKl⟩ := T3.node l (by omega)
    obtain ⟨cpv, ckv, hNc, c0, c1, hPc, hKc⟩ := T3.node c (by omega)
    rw [hL3] at hKl
    rw [hC3] at hKc
    simp only at hKl hKc
    rw [hnb3] at l1 c1
    obtain ⟨la, lc, rfl⟩ := hKl.slice
    obtain ⟨ca, cc, rfl⟩ := hKc.slice
    rw [← hPL, ← hKL] at hkl9
    rw [← hPC, ← hKC] at hkc9
    rw [← hPL, ← hPC] at h9
    have hKL10 : KL.length ≤ 10 := by rcases hkl9 with ⟨h', _⟩ | ⟨e', _, h'⟩ <;> omega
    have hKC10 : KC.length ≤ 10 := by rcases hkc9 with ⟨h', _⟩ | ⟨e', _, h'⟩ <;> omega
    have hposA : A.length < PA.length := by rw [hPA]; exact hpos
    have hPA9 : PA.length ≤ 9 := by rw [hPA]; exact hps9
    clear hkl9 hkc9 hPA hKA hPL hKL hPC hKC
    obtain ⟨v2, w4, hrun, hG, hgr, hat⟩ := append_all_run (P := Try.prog) (w := wc.drew) 58 Try.underlying58 (.int .i64 0) 8 infoIn rfl (by omega) hKl.drew (by omega) inCells_len inCells_one ca KC.length cc (hKc.drew.rows inCells_len) (fun e => hKc.nilcap e) (by unfold maxLen; omega) (by omega)
    have hgr4 : wc.grownBy w4 (Value.slice la KL.length lc).ownBlock := (grown_drew _ _).trans hgr
    have hat4 : v2.ownBlock = (Value.slice la KL.length lc).ownBlock ∨ ∀ b, v2.ownBlock = some b → wc.heap.size ≤ b := hat
    have hnbl : (Value.slice la KL.length lc).ownBlock ≠ some m.nb := fun e => by
      have := hKl.ne T3.row (by decide) e
      rw [hnb3] at this
      exact this rfl
    have hnb2 : m.nb < wc.heap.size := by rw [← hnb3]; exact T3.nb_lt
    have x0 := hgr4.cell l1 (fun e => hnbl e.symm)
    have x1 := (frozen_of_block (hgr4.block m.nb hnb2 (fun e => hnbl e.symm)) (l * 2 + 1)).trans (show wc.frozen? ⟨m.nb, l * 2 + 1, none⟩ = false from hnb3 ▸ T3.thaw (l * 2 + 1))
    have hnb4 : m.nb < w4.heap.size := Nat.lt_of_lt_of_le hnb2 hgr4.size
    have hS0 : ∀ W, wc.grownBy W (Value.slice la KL.length lc).ownBlock → (W.cell? ⟨m.nb, l * 2 + 1, none⟩ = some (.slice la KL.length lc) ∧ W.cell? ⟨m.nb, c * 2 + 1, none⟩ = some (.slice ca KC.length cc)) := fun W hg => ⟨hg.cell l1 (fun e => hnbl e.symm), hg.cell c1 (fun e => hnbl e.symm)⟩
    have hslice : ∃ va vn vc, v2 = .slice va vn vc := by
      obtain ⟨a', c', hv'⟩ := hG.slice
      exact ⟨_, _, _, hv'⟩
    obtain ⟨va, vn, vc, rfl⟩ := hslice
    have HS0 := Lib.hid hS0
    have HR := Lib.hid hrun
    have HG := Lib.hid (And.intro hG (And.intro hgr4 hat4))
    have HT3 := Lib.hid T3
    have HU3 := Lib.hid U3
    have HNl := Lib.hid hNl
    have Ht3 := Lib.hid ht3
    have HL3 := Lib.hid hL3
    have HC3 := Lib.hid hC3
    have HA3 := Lib.hid hA3
    clear hS0 hrun hG hgr hgr4 hat hat4 T3 U3 hNl hNc ht3 hL3 hC3 hA3 l0 l1 c0 c1 hPl hPc hKl hKc hnbl
    go_upto_region 4 with (fail)
    refine wp_region_last [true, true, true, true, true, true, true, true, true, false, false, false, false] (fun W => W.cell? ⟨m.nb, l * 2 + 1, none⟩ = some (.slice la KL.length lc) ∧ W.cell? ⟨m.nb, c * 2 + 1, none⟩ = some (.slice ca KC.length cc)) (by kernel_rfl) (by kernel_rfl) (fun _ _ d _ _ h => by cases d <;> exact h) (HS0.out _ (grown_drew _ _)) ?_
    simp only [List.map, Bool.not_true, Bool.not_false, pickM_yes, pickM_no, pickM_nil]
    repeat ((refine wpHeld_step ?_ rfl (fun W hW => ?_) ?_; rotate_left; focus ((try dsimp only at hW); go_simp; try with_reducible rfl)); simp only [Act.put, List.setIfInBounds_toArray, List.set_cons_zero, List.set_cons_succ])
    refine wpHeld_nil ?_
    refine wpHeavy_step (fun K hK => ?_)
    refine step_append_eq (by rfl) (.tmp 69) (.tmp 73) 58 (by rfl) _ _ _ _ (by rfl) (by rfl) HR.out ?_
    refine hK.out _ _ (fun _ => HS0.out _ HG.out.2.1) ?_
    clear hK K
    (try simp only [Act.put, List.setIfInBounds_toArray, List.set_cons_zero, List.set_cons_succ])
    refine wpHeavy_step (fun K hK => ?_)
    go_simp
    refine hK.out _ _ (fun _ => HS0.out _ HG.out.2.1) ?_
    clear hK K
    (try simp only [Act.put, List.setIfInBounds_toArray, List.set_cons_zero, List.set_cons_succ])
    refine wpHeavy_step (fun K hK => ?_)
    go_simp
    refine hK.out _ _ (fun _ => HS0.out _ HG.out.2.1) ?_
    clear hK K
    (try simp only [Act.put, List.setIfInBounds_toArray, List.set_cons_zero, List.set_cons_succ])
    refine wpHeavy_step (fun K hK => ?_)
    go_simp
    refine hK.out _ _ (fun h' => absurd rfl h') ?_
    clear hK K
    (try simp only [Act.put, List.setIfInBounds_toArray, List.set_cons_zero, List.set_cons_succ])
    refine wpHeavy_nil ?_
    obtain ⟨m4, T4, U4, hnb4', -, -, -, -⟩ := HT3.out.putK l HNl.out HG.out.2.1 HG.out.1 HG.out.2.2
    rw [hnb3] at T4 U4
    generalize w4.setCell ⟨m.nb, l * 2 + 1, none⟩ _ = w5 at *
    obtain ⟨t4, ht4⟩ : ∃ t4, t4 = t3.put l ⟨PL ++ mid :: PC, KL ++ KC⟩ := ⟨_, rfl⟩
    rw [HL3.out] at T4
    simp only at T4
    rw [← ht4] at T4
    have hnb4e : m4.nb = m.nb := hnb4'.trans hnb3
    have hl4 : t4.nodes.length = t.nodes.length := by rw [ht4, put_len, hl3]
    have hA4 : t4.nd a = ⟨PA, KA⟩ := by rw [ht4, nd_put_ne (Ne.symm n1), HA3.out]
    obtain ⟨ab4, ac4, akv, hNa, a0, hGa, hab4⟩ := T4.pairsOf a (by omega) (by rw [hA4]; exact Nat.lt_of_le_of_lt (Nat.zero_le _) hposA)
    rw [hA4] at hNa a0 hGa
    simp only at hNa a0 hGa
    rw [hnb4e] at a0
    have hRC := Lib.hid (cutPr_any ab4 PA.length ac4 PA A.length hposA (by omega) w5 hGa)
    have z0 : w5.frozen? ⟨m.nb, a * 2, none⟩ = false := hnb4e ▸ T4.thaw _
    have hnb5 : m.nb < w5.heap.size := hnb4e ▸ T4.nb_lt
    have hne4 : some m.nb ≠ some ab4 := fun e => by
      have := hGa.ne T4.row (by decide) (b := ab4) rfl
      rw [hnb4e, ← e] at this
      exact this rfl
    have HNE := Lib.hid hne4
    have HT4 := Lib.hid T4
    have HU4 := Lib.hid (HU3.out.trans U4)
    have HNa := Lib.hid hNa
    have Ht4 := Lib.hid ht4
    have HA4 := Lib.hid hA4
    have hKPA : KA.length = PA.length + 1 := by rw [HD.out.2.1, HD.out.1]; exact hks10
    have HKPA := Lib.hid hKPA
    clear hne4 T4 U4 hNa ht4 hA4 hGa hKPA HG HR HS0 HT3 HU3 HNl HL3 HC3 HT2 HU2 x0 x1
    go_upto_region 6 with (go_at_call 44; (with_reducible refine hRC.out.mono ?_); rintro e w6 ⟨rfl, hG6, hgr6⟩; have q0 := hgr6.cell a0 HNE.out; have q1 := (frozen_of_block (hgr6.block m.nb hnb5 HNE.out) (a * 2)).trans z0; have hnb6 : m.nb < w6.heap.size := Nat.lt_of_lt_of_le hnb5 hgr6.size)
    obtain ⟨m5, T5, U5, hnb5', -, -, -, -⟩ := HT4.out.putP a HNa.out hgr6 hG6 (.inl rfl)
    rw [hnb4e] at T5 U5
    generalize w6.setCell ⟨m.nb, a * 2, none⟩ _ = w7 at *
    rw [HA4.out] at T5
    simp only at T5
    obtain ⟨t5, ht5⟩ : ∃ t5, t5 = t4.put a ⟨cutL PA A.length, KA⟩ := ⟨_, rfl⟩
    rw [← ht5] at T5
    have hnb5e : m5.nb = m.nb := hnb5'.trans hnb4e
    have hl5 : t5.nodes.length = t.nodes.length := by rw [ht5, put_len, hl4]
    have hA5 : t5.nd a = ⟨cutL PA A.length, KA⟩ := by rw [ht5, nd_put_same (by omega)]
    have hKA2 : A.length + 1 < KA.length := by rw [HKPA.out]; omega
    obtain ⟨kb5, kc5, apv, hNa, a1, hGa, hkb5⟩ := T5.kidsOf a (by omega) (by rw [hA5]; exact Nat.lt_of_le_of_lt (Nat.zero_le _) hKA2)
    rw [hA5] at hNa a1 hGa
    simp only at hNa a1 hGa
    rw [hnb5e] at a1
    have hRK := cutIn_any kb5 KA.length kc5 KA (A.length + 1) hKA2 (by rw [HKPA.out]; omega) w7 hGa
    simp only [Int.natCast_add, Int.natCast_one] at hRK
    have HRK := Lib.hid hRK
    have z1 : w7.frozen? ⟨m.nb, a * 2 + 1, none⟩ = false := hnb5e ▸ T5.thaw _
    have hnb7 : m.nb < w7.heap.size := hnb5e ▸ T5.nb_lt
    have hne5 : some m.nb ≠ some kb5 := fun e => by
      have := hGa.ne T5.row (by decide) (b := kb5) rfl
      rw [hnb5e, ← e] at this
      exact this rfl
    have HNE5 := Lib.hid hne5
    have HT5 := Lib.hid T5
    have HU5 := Lib.hid (HU4.out.trans U5)
    have HNa5 := Lib.hid hNa
    have Ht5 := Lib.hid ht5
    have HA5 := Lib.hid hA5
    clear hne5 T5 U5 hNa ht5 hA5 hGa hRK HT4 HU4 HA4 HNa hG6 hgr6 q0 q1 a0 z0 hRC HNE hnb6 hnb5
    go_upto_region 7 with (go_at_call 48; (with_reducible refine HRK.out.mono ?_); rintro e w8 ⟨rfl, hG8, hgr8⟩; have q0 := hgr8.cell a1 HNE5.out; have q1 := (frozen_of_block (hgr8.block m.nb hnb7 HNE5.out) (a * 2 + 1)).trans z1; have hnb8 : m.nb < w8.heap.size := Nat.lt_of_lt_of_le hnb7 hgr8.size)
    obtain ⟨m6, T6, U6, hnb6', -, -, -, -⟩ := HT5.out.putK a HNa5.out hgr8 hG8 (.inl rfl)
    rw [hnb5e] at T6 U6
    generalize w8.setCell ⟨m.nb, a * 2 + 1, none⟩ _ = w9 at *
    rw [HA5.out] at T6
    simp only at T6
    obtain ⟨t6, ht6⟩ : ∃ t6, t6 = t5.put a ⟨cutL PA A.length, cutL KA (A.length + 1)⟩ := ⟨_, rfl⟩
    rw [← ht6] at T6
    have hl6 : t6.nodes.length = t.nodes.length := by rw [ht6, put_len, hl5]
    have hU6 := HU5.out.trans U6
    have hf6 : t6.free = t.free := by rw [ht6, Ht5.out, Ht4.out, Ht3.out]; rfl
    have hRD := drop_any T6 (by omega) (by rw [hf6]; omega) c (by omega)
    rw [hU6.g] at hRD
    unfold ptrV at hRD
    have HRD := Lib.hid hRD
    have HU6 := Lib.hid hU6
    have Ht6 := Lib.hid ht6
    clear hRD hU6 ht6 U6 T6 hf6 hG8 hgr8 q0 q1 a1 z1 HRK HNE5 hnb8 hnb7 HT5 HU5 HNa5
    go_wp2_with (go_at_call 37; (with_reducible refine HRD.out.mono ?_); rintro e w10 ⟨m7, rfl, T7, U7⟩)
    go_end0
    have hj : joinT t a A.length = dropT ((t.put l ⟨PL ++ mid :: PC, KL ++ KC⟩).put a ⟨cutL PA A.length, cutL KA (A.length + 1)⟩) c := by
      unfold joinT
      rw [HGD.out.1, HGD.out.2, ← HMD.out, ← HD.out.1, ← HD.out.2.1, ← HD.out.2.2.1, ← HD.out.2.2.2.1, ← HD.out.2.2.2.2.1, ← HD.out.2.2.2.2.2]
    rw [hj]
    have hnd : ∀ x, t6.nd x = ((t.put l ⟨PL ++ mid :: PC, KL ++ KC⟩).put a ⟨cutL PA A.length, cutL KA (A.length + 1)⟩).nd x := fun x => by
      rw [nd2 hllt halt x, Ht6.out]
      by_cases e1 : x = a
      · subst e1; rw [if_pos rfl, nd_put_same (by omega)]
      · rw [if_neg e1, nd_put_ne e1, Ht5.out, nd_put_ne e1, Ht4.out]
        by_cases e2 : x = l
        · subst e2; rw [if_pos rfl, nd_put_same (by omega)]
        · rw [if_neg e2, nd_put_ne e2, Ht3.out, nd_put_ne e2]
    refine ⟨m7, rfl, T7.same ?_ (fun x _ => ?_) ?_ ?_ ?_, HU6.out.trans U7⟩
    · show (((t.put l _).put a _).put c noNod).nodes.length = (t6.put c noNod).nodes.length
      rw [put_len, put_len, put_len, put_len, hl6]
    · show (((t.put l _).put a _).put c noNod).nd x = (t6.put c noNod).nd x
      by_cases e1 : x = c
      · subst e1; rw [nd_put_same (by rw [put_len, put_len]; exact hclt), nd_put_same (by omega)]
      · rw [nd_put_ne e1, nd_put_ne e1, hnd]
    · show t.free ++ [c] = t6.free ++ [c]
      rw [Ht6.out, Ht5.out, Ht4.out, Ht3.out]; rfl
    · show t.root = t6.root
      rw [Ht6.out, Ht5.out, Ht4.out, Ht3.out]; rfl
    · show t.many = t6.many
      rw [Ht6.out, Ht5.out, Ht4.out, Ht3.out]; rfl
end
end Go.Proofs.Yteoibolompiohaa
