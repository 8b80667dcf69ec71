/- The walk of remove. Conditions: as each theorem says. -/
import Derived.Test.YteoibolompiohaaIdxO
namespace Go.Proofs.Yteoibolompiohaa
open Go.RowKit

section
variable {m : Mem} {t : Tr} {w : World} {d a : Nat} {k : Key}
def RemRel (m : Mem) (w : World) (R : Tr) (gk : Nat) (v1 v2 : Value) (wr : World) : Prop :=
  ∃ (x e : Nat) (t1 : Tr) (q : Key) (m1 : Mem), v1 = .int .i64 (x : Int) ∧ v2 = .string (bs q) ∧ remO gk t1 x q = some R ∧ Rem t1 e x q ∧ TreeAt m1 t1 wr ∧ Stp m m1 w wr ∧ t1.nodes.length ≤ 100000
set_option maxRecDepth 100000 in
set_option maxHeartbeats 4000000 in
theorem remove_any (h : TreeAt m t w) (hr : Rem t d a k) (hn : t.nodes.length ≤ 100000) (R : Tr) (hR : remO 400 t a k = some R) :
    Calls Try.prog 36 #[ptrV m.g, .int .i64 (a : Int), .string (bs k)] w (StepSaid m R w) := by
  have HI : Hid (RemRel m w R 400 (.int .i64 (a : Int)) (.string (bs k)) w) := Lib.hid ⟨a, d, t, k, m, rfl, rfl, hR, hr, h, Stp.refl m w, hn⟩
  clear h hr hR hn
  unfold ptrV
  go_enter Try.func36, Try.ntmps36
  go_wp2
  go_loopg [1, 2] 400 (fun gk v1 v2 wr => RemRel m w R gk v1 v2 wr)
  case atStart => exact HI.out
  case round =>
    obtain ⟨x, e, t1, q, m1, rfl, rfl, hrem, hr1, h1, s1, hn⟩ := hrel
    obtain ⟨f, rfl⟩ : ∃ f, gk = f + 1 := by
      cases gk with
      | zero => rw [remO] at hrem; cases hrem
      | succ f => exact ⟨f, rfl⟩
    have hok := hr1.good.ok
    have ha := ok_lt hok
    have h9 := ok_ps hok
    have hks := ok_len hok
    have hfree := good_free hr1.good
    have HS := Lib.hid (spot_any h1 x ha (by omega) (by omega) q)
    have g0 := h1.top.cell (i := 0) rfl
    rw [s1.g] at g0
    obtain ⟨pv, kv, hN, c0, c1, hP, hK⟩ := h1.node x ha
    have haa : (x : Int) < (t1.nodes.length : Int) := by omega
    have hsp := spotF_le (t1.nd x).ps q
    have hnb := h1.nb_lt
    rw [remO] at hrem
    have H1 := Lib.hid h1
    have S1 := Lib.hid s1
    have HR1 := Lib.hid hr1
    have HN := Lib.hid hN
    unfold ptrV at HS
    rw [s1.g] at HS
    clear h1 s1 hr1 hN HI hok
    rcases hks with ⟨h0, rfl⟩ | ⟨e, rfl, hks⟩
    · rw [if_pos h0] at hrem
      simp only [Option.some.injEq] at hrem
      have hhas := HR1.out.has
      have hcc : t1.cont 0 x = (t1.nd x).ps := rfl
      rw [hcc] at hhas
      obtain ⟨hpl, _⟩ := hasF_lt hhas
      obtain ⟨pb, pc, hpv, _⟩ := hP.form (by omega)
      obtain ⟨ka, kc, hkv⟩ := hK.slice
      rw [hkv, h0] at c1
      rw [hpv] at c0
      have hG := hP
      rw [hpv] at hG
      have HC := Lib.hid (cutPr_any pb _ pc _ _ hpl (by omega) wr hG)
      have hne : some m1.nb ≠ some pb := fun e => by
        have := hG.ne H1.out.row (by decide) (b := pb) rfl
        rw [← e] at this
        exact this rfl
      have HNE := Lib.hid hne
      have z0 : wr.frozen? ⟨m1.nb, x * 2, none⟩ = false := H1.out.thaw _
      have HPV := Lib.hid hpv
      have HRm := Lib.hid hrem
      clear hP hK hG hrem hhas hcc hne hpv hkv
      go_wp2_with (first | (go_at_call 32; (with_reducible refine HS.out.mono ?_); rintro e w' ⟨rfl, rfl⟩) | (go_at_call 44; (with_reducible refine HC.out.mono ?_); rintro e w2 ⟨rfl, hG2, hgr2⟩; have q0 := hgr2.cell c0 HNE.out; have q1 := (frozen_of_block (hgr2.block m1.nb hnb HNE.out) (x * 2)).trans z0; have hnb2 : m1.nb < w2.heap.size := Nat.lt_of_lt_of_le hnb hgr2.size))
      try rw [Exit.noGoto_ret]
      go_end0
      obtain ⟨m2, T2, U2, -, -, -, -, -⟩ := H1.out.putP x HN.out (by rw [HPV.out]; exact hgr2) hG2 (.inl (by rw [HPV.out]; rfl))
      rw [← HRm.out]
      exact ⟨m2, rfl, T2, S1.out.trans U2⟩
    · have hpos : ¬ (t1.nd x).ks.length = 0 := by omega
      rw [if_neg hpos] at hrem
      have hposb : (((t1.nd x).ks.length : Int) == 0) = false := beq_eq_false_iff_ne.2 (by omega)
      have hks10 : (t1.nd x).ks.length ≤ 10 := by omega
      have hspk : spotF (t1.nd x).ps q < (t1.nd x).ks.length := by omega
      have hp1 := HR1.out.top (by omega)
      have HKS := Lib.hid hks
      obtain ⟨kb, kc, hkv, _⟩ := hK.form (by omega)
      rw [hkv] at c1 hK
      clear hks hpos
      by_cases hi : hasF (t1.nd x).ps q = true
      · rw [if_neg (by rw [hi]; simp)] at hrem
        rw [hi] at HS
        obtain ⟨l, c, hl, hc, hkk, hpl, hAl, hpe⟩ := rem_kids HR1.out hi
        rw [hl, hc] at hrem
        have hok := HR1.out.good.ok
        rw [Tr.ok] at hok
        have hlm : l ∈ (t1.nd x).ks := by rw [hkk]; simp
        have hcm : c ∈ (t1.nd x).ks := by rw [hkk]; simp
        have hlk := hok.2.2.2 l hlm
        have hck := hok.2.2.2 c hcm
        have hllt := ok_lt hlk.1
        have hclt := ok_lt hck.1
        have hl9 := ok_ps hlk.1
        have hc9 := ok_ps hck.1
        have hi1 : spotF (t1.nd x).ps q + 1 < (t1.nd x).ks.length := by have := HKS.out; omega
        obtain ⟨ip, hip⟩ : ∃ ip, ip = spotF (t1.nd x).ps q := ⟨_, rfl⟩
        have HIP := Lib.hid hip
        rw [← hip] at hrem hl hc hkk hpl hAl hpe hi1 hspk HS
        have e0 := hK.cells inCells_len rfl ip hspk
        rw [show (t1.nd x).ks[ip] = l by rw [← hl]; simp [List.getD, hspk]] at e0
        have e1 := hK.cells inCells_len rfl (ip + 1) hi1
        rw [show (t1.nd x).ks[ip + 1] = c by rw [← hc]; simp [List.getD, hi1]] at e1
        have k0 := e0 0 _ rfl
        have k1 := e1 0 _ rfl
        rw [Nat.mul_one, Nat.add_zero] at k0 k1
        obtain ⟨lb, lc, lkv, hNl, l0, hPLg, hlb⟩ := H1.out.pairsOf l hllt (by omega)
        obtain ⟨cb, cc, ckv, hNc, c0', hPCg, hcb⟩ := H1.out.pairsOf c hclt (by omega)
        have hll : (l : Int) < (t1.nodes.length : Int) := by omega
        have hcc : (c : Int) < (t1.nodes.length : Int) := by omega
        have hii0 : (ip : Int) < ((t1.nd x).ks.length : Int) := by omega
        have hii1 : (ip : Int) + 1 < ((t1.nd x).ks.length : Int) := by omega
        have hip10 : (ip : Int) ≤ 10 := by omega
        have hw : IntKind.i64.wrap ((ip : Int) + 1) = (ip : Int) + 1 := IntWalk.i64_in _ (by omega)
        have h01 : (0 : Int) ≤ (ip : Int) + 1 := by omega
        have ht1 : ((ip : Int) + 1).toNat = ip + 1 := by omega
        have HKK := Lib.hid (And.intro hkk (And.intro hAl hpe))
        have HLK := Lib.hid (And.intro hlk hck)
        clear hok hlm hcm hip hl hc e0 e1 hNl hNc hPLg hPCg hkk hAl hpe hlk hck hP hK hkv hi
        by_cases h5 : 4 < (t1.nd l).ps.length
        · as_aux_lemma =>
          rw [if_pos h5] at hrem
          have hr2 := rem_left HR1.out ip hpl HKK.out.2.2 l c HKK.out.1 h5
          have HEnd := end_any H1.out.drew (by omega) l e HLK.out.1.1 HLK.out.1.2 (by have := HR1.out.deep; omega) true
          rw [S1.out.g] at HEnd
          unfold ptrV EndSaid at HEnd
          have h5i : (4 : Int) < ((t1.nd l).ps.length : Int) := by omega
          obtain ⟨X, hX⟩ : ∃ X, X = endT t1 400 l true := ⟨_, rfl⟩
          rw [← hX] at hrem hr2 HEnd
          have HEnd := Lib.hid HEnd
          have HR2 := Lib.hid (And.intro hrem hr2)
          clear hrem hr2 hX
          go_upto_region 9 with (go_at_call 32; (with_reducible refine HS.out.mono ?_); rintro e' w' ⟨rfl, rfl⟩)
          go_region
          go_upto_region 14 with (go_at_call 46; (with_reducible refine HEnd.out.mono ?_); rintro e' w2 ⟨rfl, hB2⟩)
          have hBW : Below wr.heap.size wr (w2.alloc (.cells #[.string (bs X.1), .int .i64 X.2] PrT)) := Grew.step (Below.trans (Below.refl _ wr).drew hB2) (alloc_below w2 _)
          have hBx := BlkAt.alloc_new w2 [.string (bs X.1), .int .i64 X.2] PrT
          have hwx : wr.heap.size ≤ w2.heap.size := hB2.size
          have hGW : w2.heap.size < (w2.alloc (.cells #[.string (bs X.1), .int .i64 X.2] PrT)).heap.size := by simp
          obtain ⟨gx, hgx⟩ : ∃ gx, gx = w2.heap.size := ⟨_, rfl⟩
          rw [← hgx] at hBx hwx hGW
          try simp only [← hgx]
          have hBx : BlkAt gx PrT [.string (bs X.1), .int .i64 X.2] (w2.alloc (.cells #[.string (bs X.1), .int .i64 X.2] PrT)) := hBx
          generalize (w2.alloc (.cells #[.string (bs X.1), .int .i64 X.2] PrT)) = W at *
          clear hgx
          have T2 := H1.out.grew hBW
          obtain ⟨pb, pc, pkv, hNp, p0, hPg, hpb⟩ := T2.pairsOf x ha (by omega)
          have b0 := hBx.cell (i := 0) rfl
          have b1 := hBx.cell (i := 1) rfl
          have hfoot : ¬ m1.foot gx := fun hh => by have := H1.out.foot_lt hh; omega
          have hpi : (ip : Int) < ((t1.nd x).ps.length : Int) := by omega
          have z2 : ∀ o, W.frozen? ⟨pb, o, none⟩ = false := fun o => hPg.thaw rfl o
          have y0 := hPg.cells prCells_len rfl ip hpl 0 _ rfl
          have y1 := hPg.cells prCells_len rfl ip hpl 1 _ rfl
          rw [Nat.add_zero] at y0
          obtain ⟨hxN, eN⟩ := N_of x hNp
          obtain ⟨T3, U3⟩ := T2.storePair hxN (by rw [eN]) ip hpl X
          have hBx3 := (U3.blk hBx hfoot).1
          have HST := Lib.hid (And.intro T3 (And.intro ((S1.out.trans (Stp.of_below hBW)).trans U3) hBx3))
          have HBX := Lib.hid hBx
          clear T2 hNp hPg eN T3 U3 hBx3 hBx c0 c1 k0 k1 l0 c0' g0 HS HEnd hxN hBW hB2 hfoot
          refine wp_region_last [true, true, true, true, true, true, true, false] (fun V => V.cell? ⟨m1.nb, x * 2, none⟩ = some (.slice (some ⟨pb, 0, none⟩) (t1.nd x).ps.length pc) ∧ V.cell? ⟨gx, 0, none⟩ = some (.string (bs X.1)) ∧ V.cell? ⟨gx, 1, none⟩ = some (.int .i64 X.2)) (by kernel_rfl) (by kernel_rfl) (fun _ _ d _ _ h => by cases d <;> exact h) ⟨p0, b0, b1⟩ ?_
          simp only [List.map, Bool.not_true, Bool.not_false, pickM_yes, pickM_no, pickM_nil]
          repeat ((refine wpHeld_step ?_ rfl (fun V hV => ?_) ?_; rotate_left; focus ((try dsimp only at hV); go_simp; try with_reducible rfl)); simp only [Act.put, List.setIfInBounds_toArray, List.set_cons_zero, List.set_cons_succ])
          refine wpHeld_nil ?_
          refine wpHeavy_step (fun K hK => ?_)
          go_simp
          refine hK.out _ _ (fun h' => absurd rfl h') ?_
          clear hK K
          (try simp only [Act.put, List.setIfInBounds_toArray, List.set_cons_zero, List.set_cons_succ])
          refine wpHeavy_nil ?_
          have HI : Hid (∀ wq, Below ((W.setCell ⟨pb, ip * 2, none⟩ (.string (bs X.1))).setCell ⟨pb, ip * 2 + 1, none⟩ (.int .i64 X.2)).drew.heap.size ((W.setCell ⟨pb, ip * 2, none⟩ (.string (bs X.1))).setCell ⟨pb, ip * 2 + 1, none⟩ (.int .i64 X.2)).drew wq → RemRel m w R f (.int .i64 (l : Int)) (.string (bs X.1)) wq) := Lib.hid (fun wq hq => ⟨l, e, _, X.1, m1, rfl, rfl, HR2.out.1, HR2.out.2, HST.out.1.drew.grew hq, (HST.out.2.1.trans (Stp.of_below ((Below.refl _ _).drew))).trans (Stp.of_below hq), by rw [put_len]; omega⟩)
          have hb3 : ((W.setCell ⟨pb, ip * 2, none⟩ (.string (bs X.1))).setCell ⟨pb, ip * 2 + 1, none⟩ (.int .i64 X.2)).drew.cell? ⟨gx, 0, none⟩ = some (.string (bs X.1)) := BlkAt.cell (i := 0) (HST.out.2.2) rfl
          clear p0 b0 b1 y0 y1 z2
          generalize ((W.setCell ⟨pb, ip * 2, none⟩ (.string (bs X.1))).setCell ⟨pb, ip * 2 + 1, none⟩ (.int .i64 X.2)).drew = w3 at *
          go_upto_region 15 with (fail)
          go_region
          all_goals
            go_wp2
            go_roundg f
            case rel => exact HI.out _ (Below.refl _ _).drew
            case measure => omega
        · rw [if_neg h5] at hrem
          have h5i : ¬ (4 : Int) < ((t1.nd l).ps.length : Int) := by omega
          by_cases h6 : 4 < (t1.nd c).ps.length
          · as_aux_lemma =>
            rw [if_pos h6] at hrem
            have hr2 := rem_right HR1.out ip hpl HKK.out.2.2 l c HKK.out.1 h6
            have HEnd := end_any H1.out.drew (by omega) c e HLK.out.2.1 HLK.out.2.2 (by have := HR1.out.deep; omega) false
            rw [S1.out.g] at HEnd
            unfold ptrV EndSaid at HEnd
            have h6i : (4 : Int) < ((t1.nd c).ps.length : Int) := by omega
            obtain ⟨X, hX⟩ : ∃ X, X = endT t1 400 c false := ⟨_, rfl⟩
            rw [← hX] at hrem hr2 HEnd
            have HEnd := Lib.hid HEnd
            have HR2 := Lib.hid (And.intro hrem hr2)
            clear hrem hr2 hX
            go_upto_region 9 with (go_at_call 32; (with_reducible refine HS.out.mono ?_); rintro e' w' ⟨rfl, rfl⟩)
            go_region
            go_upto_region 18 with (go_at_call 46; (with_reducible refine HEnd.out.mono ?_); rintro e' w2 ⟨rfl, hB2⟩)
            have hBW : Below wr.heap.size wr (w2.alloc (.cells #[.string (bs X.1), .int .i64 X.2] PrT)) := Grew.step (Below.trans (Below.refl _ wr).drew hB2) (alloc_below w2 _)
            have hBx := BlkAt.alloc_new w2 [.string (bs X.1), .int .i64 X.2] PrT
            have hwx : wr.heap.size ≤ w2.heap.size := hB2.size
            have hGW : w2.heap.size < (w2.alloc (.cells #[.string (bs X.1), .int .i64 X.2] PrT)).heap.size := by simp
            obtain ⟨gx, hgx⟩ : ∃ gx, gx = w2.heap.size := ⟨_, rfl⟩
            rw [← hgx] at hBx hwx hGW
            try simp only [← hgx]
            have hBx : BlkAt gx PrT [.string (bs X.1), .int .i64 X.2] (w2.alloc (.cells #[.string (bs X.1), .int .i64 X.2] PrT)) := hBx
            generalize (w2.alloc (.cells #[.string (bs X.1), .int .i64 X.2] PrT)) = W at *
            clear hgx
            have T2 := H1.out.grew hBW
            obtain ⟨pb, pc, pkv, hNp, p0, hPg, hpb⟩ := T2.pairsOf x ha (by omega)
            have b0 := hBx.cell (i := 0) rfl
            have b1 := hBx.cell (i := 1) rfl
            have hfoot : ¬ m1.foot gx := fun hh => by have := H1.out.foot_lt hh; omega
            have hpi : (ip : Int) < ((t1.nd x).ps.length : Int) := by omega
            have z2 : ∀ o, W.frozen? ⟨pb, o, none⟩ = false := fun o => hPg.thaw rfl o
            have y0 := hPg.cells prCells_len rfl ip hpl 0 _ rfl
            have y1 := hPg.cells prCells_len rfl ip hpl 1 _ rfl
            rw [Nat.add_zero] at y0
            obtain ⟨hxN, eN⟩ := N_of x hNp
            obtain ⟨T3, U3⟩ := T2.storePair hxN (by rw [eN]) ip hpl X
            have hBx3 := (U3.blk hBx hfoot).1
            have HST := Lib.hid (And.intro T3 (And.intro ((S1.out.trans (Stp.of_below hBW)).trans U3) hBx3))
            have HBX := Lib.hid hBx
            clear T2 hNp hPg eN T3 U3 hBx3 hBx c0 c1 k0 k1 l0 c0' g0 HS HEnd hxN hBW hB2 hfoot
            refine wp_region_last [true, true, true, true, true, true, true, false] (fun V => V.cell? ⟨m1.nb, x * 2, none⟩ = some (.slice (some ⟨pb, 0, none⟩) (t1.nd x).ps.length pc) ∧ V.cell? ⟨gx, 0, none⟩ = some (.string (bs X.1)) ∧ V.cell? ⟨gx, 1, none⟩ = some (.int .i64 X.2)) (by kernel_rfl) (by kernel_rfl) (fun _ _ d _ _ h => by cases d <;> exact h) ⟨p0, b0, b1⟩ ?_
            simp only [List.map, Bool.not_true, Bool.not_false, pickM_yes, pickM_no, pickM_nil]
            repeat ((refine wpHeld_step ?_ rfl (fun V hV => ?_) ?_; rotate_left; focus ((try dsimp only at hV); go_simp; try with_reducible rfl)); simp only [Act.put, List.setIfInBounds_toArray, List.set_cons_zero, List.set_cons_succ])
            refine wpHeld_nil ?_
            refine wpHeavy_step (fun K hK => ?_)
            go_simp
            refine hK.out _ _ (fun h' => absurd rfl h') ?_
            clear hK K
            (try simp only [Act.put, List.setIfInBounds_toArray, List.set_cons_zero, List.set_cons_succ])
            refine wpHeavy_nil ?_
            have HI : Hid (∀ wq, Below ((W.setCell ⟨pb, ip * 2, none⟩ (.string (bs X.1))).setCell ⟨pb, ip * 2 + 1, none⟩ (.int .i64 X.2)).drew.heap.size ((W.setCell ⟨pb, ip * 2, none⟩ (.string (bs X.1))).setCell ⟨pb, ip * 2 + 1, none⟩ (.int .i64 X.2)).drew wq → RemRel m w R f (.int .i64 (c : Int)) (.string (bs X.1)) wq) := Lib.hid (fun wq hq => ⟨c, e, _, X.1, m1, rfl, rfl, HR2.out.1, HR2.out.2, HST.out.1.drew.grew hq, (HST.out.2.1.trans (Stp.of_below ((Below.refl _ _).drew))).trans (Stp.of_below hq), by rw [put_len]; omega⟩)
            have hb3 : ((W.setCell ⟨pb, ip * 2, none⟩ (.string (bs X.1))).setCell ⟨pb, ip * 2 + 1, none⟩ (.int .i64 X.2)).drew.cell? ⟨gx, 0, none⟩ = some (.string (bs X.1)) := BlkAt.cell (i := 0) (HST.out.2.2) rfl
            clear p0 b0 b1 y0 y1 z2
            generalize ((W.setCell ⟨pb, ip * 2, none⟩ (.string (bs X.1))).setCell ⟨pb, ip * 2 + 1, none⟩ (.int .i64 X.2)).drew = w3 at *
            go_upto_region 19 with (fail)
            go_region
            all_goals
              go_wp2
              go_roundg f
              case rel => exact HI.out _ (Below.refl _ _).drew
              case measure => omega
          · as_aux_lemma =>
            rw [if_neg h6] at hrem
            have h6i : ¬ (4 : Int) < ((t1.nd c).ps.length : Int) := by omega
            obtain ⟨hr2, hl2⟩ := rem_join HR1.out ip hpl HKK.out.2.2 l c HKK.out.1 h5 h6
            have HJ := join_any H1.out.drew HR1.out.good HKK.out.1 (by omega) hn (by omega)
            rw [S1.out.g, HKK.out.2.1] at HJ
            unfold ptrV StepSaid at HJ
            have HJ := Lib.hid HJ
            have HR2 := Lib.hid (And.intro hrem hr2)
            clear hrem hr2
            go_upto_region 9 with (go_at_call 32; (with_reducible refine HS.out.mono ?_); rintro e' w' ⟨rfl, rfl⟩)
            go_region
            go_upto_region 11 with (go_at_call 47; (with_reducible refine HJ.out.mono ?_); rintro e' w2 ⟨m2, rfl, T2, U2⟩)
            have HI : Hid (∀ wq, Below w2.heap.size w2 wq → RemRel m w R f (.int .i64 (l : Int)) (.string (bs q)) wq) := Lib.hid (fun wq hq => ⟨l, e, _, q, m2, rfl, rfl, HR2.out.1, HR2.out.2, T2.grew hq, ((S1.out.trans (Stp.of_below ((Below.refl _ _).drew))).trans U2).trans (Stp.of_below hq), by omega⟩)
            clear T2 U2
            go_wp2
            go_roundg f
            case rel => exact HI.out _ (Below.refl _ _)
            case measure => omega
      · rw [Bool.not_eq_true] at hi
        rw [if_pos hi] at hrem
        rw [hi] at HS
        obtain ⟨f1, f2, f3, f4, f5⟩ := rem_fill HR1.out hi
        rw [if_neg (by rw [f1]; simp)] at hrem
        have HF := fill_any H1.out HR1.out.good hp1 _ hspk hn (by omega)
        rw [S1.out.g] at HF
        unfold ptrV FillGot at HF
        have HF := Lib.hid HF
        obtain ⟨t2, ht2⟩ : ∃ t2, t2 = (fillT t1 x (spotF (t1.nd x).ps q)).2 := ⟨_, rfl⟩
        rw [← ht2] at hrem f1 f2 f3 f4 f5 HF
        have HRm := Lib.hid hrem
        have HF3 := Lib.hid (And.intro f3 f5)
        clear hP hK hrem hkv ht2 f3 f5 hi
        go_upto_region 6 with (first | (go_at_call 32; (with_reducible refine HS.out.mono ?_); rintro e w' ⟨rfl, rfl⟩) | (go_at_call 45; (with_reducible refine HF.out.mono ?_); rintro e w2 ⟨m2, rfl, T2, U2⟩))
        have hx2 := ok_lt HF3.out.2.ok
        have h92 := ok_ps HF3.out.2.ok
        have hk2 : (t2.nd x).ks.length ≤ 10 := by have := HF3.out.2.ok; rw [Tr.ok] at this; omega
        have hUg : m2.g = m.g := U2.g.trans S1.out.g
        have HS2 := spot_any T2 x hx2 (by omega) (by omega) q
        rw [f1, hUg] at HS2
        unfold ptrV at HS2
        have HS2 := Lib.hid HS2
        have g0 := T2.top.cell (i := 0) rfl
        rw [hUg] at g0
        obtain ⟨kb2, kc2, kpv2, hN2, c2, hK2, _⟩ := T2.kidsOf x hx2 (by omega)
        have e0 := hK2.cells inCells_len rfl _ f2
        have k0 := e0 0 _ rfl
        rw [Nat.mul_one, Nat.add_zero] at k0
        have hxx2 : (x : Int) < (t2.nodes.length : Int) := by omega
        have hii2 : (spotF (t2.nd x).ps q : Int) < ((t2.nd x).ks.length : Int) := by omega
        have hgd : (t2.nd x).ks.getD (spotF (t2.nd x).ps q) 0 = (t2.nd x).ks[spotF (t2.nd x).ps q] := by simp [List.getD, f2]
        have HI : Hid (∀ wq, Below w2.heap.size w2 wq → RemRel m w R f (.int .i64 ((t2.nd x).ks[spotF (t2.nd x).ps q] : Int)) (.string (bs q)) wq) := Lib.hid (fun wq hq => ⟨_, e, t2, q, m2, rfl, rfl, by rw [← hgd]; exact HRm.out, by rw [← hgd]; exact HF3.out.1, T2.grew hq, (S1.out.trans U2).trans (Stp.of_below hq), by omega⟩)
        clear HF HS T2 U2 hN2 hK2 e0 hgd c0 c1
        go_wp2_with (go_at_call 32; (with_reducible refine HS2.out.mono ?_); rintro e w' ⟨rfl, rfl⟩)
        go_roundg f
        case rel => exact HI.out _ (Below.refl _ _)
        case measure => omega
end
end Go.Proofs.Yteoibolompiohaa
