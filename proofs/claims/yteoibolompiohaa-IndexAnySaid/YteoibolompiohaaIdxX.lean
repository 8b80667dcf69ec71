/- The walk of Delete. Conditions: as each theorem says. -/
import Derived.Test.YteoibolompiohaaIdxQ
namespace Go.Proofs.Yteoibolompiohaa
open Go.RowKit

section
variable {m : Mem} {t : Tr} {w : World} {d a : Nat} {k : Key}
set_option maxRecDepth 100000 in
set_option maxHeartbeats 4000000 in
/-- Delete where the key is there. -/
theorem del_has (h : TreeAt m t w) {hi : Nat} (hwf : t.wf d hi) (hd : d ≤ 390) (hn : t.nodes.length ≤ 100000) (hmm : t.many ≤ 1000000) (hhas : hasF (t.cont d t.root) k = true) (t' : Tr) (hR : delT t k = some t') :
    Calls Try.prog 22 #[ptrV m.g, .string (bs k)] w (SetAt m t' (numF (t.cont d t.root) k) true w) := by
  have hr : Rem t d t.root k := ⟨hwf.good, hwf.sorted, hhas, hwf.top, hd⟩
  obtain ⟨t1, e1, cg, e2, e3, e4, e5⟩ := (rem_sub d t t.root k hwf.good hwf.sorted hhas hwf.top 400 (by omega) hd).out
  have hG := get_any h (by omega) d hwf.good.ok k
  rw [get_law d t.root k hwf.good hwf.sorted _ (Nat.le_refl _), hhas] at hG
  have hpos : 1 ≤ t.many := by
    rw [hwf.many]
    obtain ⟨hl, _⟩ := hasF_lt hhas
    omega
  have hS : shrinkT { t1 with many := t1.many - 1 } = t' := by
    unfold delT at hR
    rw [e1] at hR
    simpa using hR
  have hgd1 := good_of_chg hwf.good cg
  have hroot1 : t1.root = t.root := cg.root
  unfold ptrV at hG
  obtain ⟨v, hv⟩ : ∃ v, v = numF (t.cont d t.root) k := ⟨_, rfl⟩
  rw [← hv] at hG ⊢
  have HG := Lib.hid hG
  have H := Lib.hid h
  have HRm := Lib.hid (And.intro hr e1)
  have HGd := Lib.hid hgd1
  have HSh := Lib.hid hS
  clear hwf hr e1 cg e2 e5 hG hR hS hhas hv h hgd1
  unfold ptrV
  go_enter Try.func22, Try.ntmps22
  go_upto_region 4 with (go_at_call 19; (with_reducible refine HG.out.mono ?_); rintro e w1 ⟨rfl, hB1⟩)
  have T1 := H.out.grew hB1
  have HRc := Lib.hid (remove_any T1 HRm.out.1 hn t1 HRm.out.2)
  unfold ptrV StepSaid at HRc
  have g2 := T1.top.cell (i := 2) rfl
  have HU1 := Lib.hid (Stp.of_below (m := m) hB1)
  clear T1 hB1
  go_upto_region 5 with (go_at_call 36; (with_reducible refine HRc.out.mono ?_); rintro e w2 ⟨m2, rfl, T2, U2⟩)
  have hU2 := HU1.out.trans U2
  have hg2 : m2.g = m.g := hU2.g
  have y3 := T2.top.cell (i := 3) rfl
  have f3 := T2.top.frozen 3
  have hgl3 := T2.g_lt
  rw [hg2] at y3 f3 hgl3
  obtain ⟨T3, U3⟩ := T2.setMany (t1.many - 1)
  rw [hg2, e3, show (((t.many - 1 : Nat) : Int)) = (t.many : Int) - 1 by omega] at T3 U3
  rw [e3] at y3
  have hw1 : IntKind.i64.wrap ((t.many : Int) - 1) = (t.many : Int) - 1 := IntWalk.i64_in _ (by omega)
  rw [e3] at HSh
  have HT3 := Lib.hid T3
  have HU3 := Lib.hid (hU2.trans U3)
  clear T3 U3 T2 U2 hU2 HRc g2 HG e3
  go_upto_region 6 with (fail)
  generalize w2.setCell ⟨m.g, 3, none⟩ (.int .i64 ((t.many : Int) - 1)) = w3 at *
  obtain ⟨t3, ht3⟩ : ∃ t3, t3 = ({ t1 with many := t.many - 1 } : Tr) := ⟨_, rfl⟩
  rw [← ht3] at HT3 HSh
  have hnd3 : ∀ x, t3.nd x = t1.nd x := fun x => by rw [ht3]; rfl
  have hl3 : t3.nodes.length = t1.nodes.length := by rw [ht3]
  have hr3 : t3.root = t.root := by rw [ht3]; exact hroot1
  have hf3 : t3.free = t1.free := by rw [ht3]
  have hrlt := ok_lt HGd.out.ok
  have hfr := good_free HGd.out
  have hkk := ok_len HGd.out.ok
  have g0 := HT3.out.top.cell (i := 0) rfl
  have g2 := HT3.out.top.cell (i := 2) rfl
  have f2 := HT3.out.top.frozen 2
  have hgl3 := HT3.out.g_lt
  rw [hg2] at g0 g2 f2 hgl3
  rw [hr3] at g2
  obtain ⟨pv, kv, hN, c0, c1, hP, hK⟩ := HT3.out.node t.root (by omega)
  obtain ⟨pa, pc, rfl⟩ := hP.slice
  obtain ⟨ka, kc, rfl⟩ := hK.slice
  rw [hnd3] at hP hK c0 c1
  have hrr : (t.root : Int) < (t3.nodes.length : Int) := by omega
  have hB : Below w3.heap.size w3 w3.drew := (Below.refl _ w3).drew
  have hBo : ∀ o, Below w3.heap.size w3 (w3.drew.alloc o) := fun o => hB.alloc (by simp) o
  have HKG := Lib.hid hK
  have HL := Lib.hid (And.intro hl3 (And.intro e4 (And.intro hr3 (And.intro hf3 (And.intro hroot1 hg2)))))
  clear hN hP hK f3 hgl3 hl3 e4 hr3 hf3 hroot1 hg2
  go_region_held3 (fun W => W.cell? ⟨m.g, 0, none⟩ = some (.slice (some ⟨m2.nb, 0, none⟩) t3.nodes.length m2.nc) ∧ W.cell? ⟨m.g, 2, none⟩ = some (.int .i64 (t.root : Int)) ∧ W.cell? ⟨m2.nb, t.root * 2, none⟩ = some (.slice pa (t1.nd t.root).ps.length pc) ∧ W.cell? ⟨m2.nb, t.root * 2 + 1, none⟩ = some (.slice ka (t1.nd t.root).ks.length kc)) (first | exact ⟨Grew.cell hB g0, Grew.cell hB g2, Grew.cell hB c0, Grew.cell hB c1⟩ | exact ⟨Grew.cell (hBo _) g0, Grew.cell (hBo _) g2, Grew.cell (hBo _) c0, Grew.cell (hBo _) c1⟩ | go_keep) (fail)
  all_goals
    have hBW : Below w3.heap.size w3 (w3.alloc (.cells #[.slice pa (t1.nd t.root).ps.length pc, .slice ka (t1.nd t.root).ks.length kc] NdT)).drew := (alloc_below w3 _).drew
    have hBx : BlkAt w3.heap.size NdT [.slice pa (t1.nd t.root).ps.length pc, .slice ka (t1.nd t.root).ks.length kc] (w3.alloc (.cells #[.slice pa (t1.nd t.root).ps.length pc, .slice ka (t1.nd t.root).ks.length kc] NdT)).drew := BlkAt.alloc_new w3 [.slice pa (t1.nd t.root).ps.length pc, .slice ka (t1.nd t.root).ks.length kc] NdT
    have T4 := HT3.out.grew hBW
    have U4 : Hid (Stp m m2 w (w3.alloc (.cells #[.slice pa (t1.nd t.root).ps.length pc, .slice ka (t1.nd t.root).ks.length kc] NdT)).drew) := Lib.hid (HU3.out.trans (Stp.of_below hBW))
    have hKG := Grow.below HKG.out hBW
    have g2 := Grew.cell hBW g2
    have f2 := T4.top.frozen 2
    have hgl := T4.g_lt
    rw [HL.out.2.2.2.2.2] at f2 hgl
    have b0 := hBx.cell (i := 0) rfl
    have b1 := hBx.cell (i := 1) rfl
    have hgg : w3.heap.size ≠ m.g := fun e => by have := HT3.out.g_lt; rw [HL.out.2.2.2.2.2] at this; omega
    rename_i hHeld
    clear hHeld g0 c0 c1 hB hBo hBx hBW
    obtain ⟨gx, hgx⟩ : ∃ gx, gx = w3.heap.size := ⟨_, rfl⟩
    rw [← hgx] at b0 b1 hgg ⊢
    clear hgx
    generalize (w3.alloc (.cells #[.slice pa (t1.nd t.root).ps.length pc, .slice ka (t1.nd t.root).ks.length kc] NdT)).drew = w4 at *
    have HT4 := Lib.hid T4
    have HKG4 := Lib.hid hKG
    clear T4 hKG HKG
    by_cases hsh : (t1.nd t.root).ps.length = 0 ∧ 0 < (t1.nd t.root).ks.length
    · obtain ⟨h0, h1⟩ := hsh
      have hok := HGd.out.ok
      rcases ok_len hok with ⟨h2, _⟩ | ⟨e, rfl, h2⟩
      · omega
      have hxk := ok_kid hok 0 h1
      have hE : t' = dropT { t3 with root := (t1.nd t.root).ks.getD 0 0 } t.root := by
        rw [← HSh.out]
        unfold shrinkT
        rw [HL.out.2.2.1, hnd3, if_pos ⟨h0, h1⟩]
      obtain ⟨x, hx⟩ : ∃ x, x = (t1.nd t.root).ks.getD 0 0 := ⟨_, rfl⟩
      have hxe : (t1.nd t.root).ks[0] = x := by rw [hx]; simp [List.getD, h1]
      rw [← hx] at hE
      rw [hxe] at hxk
      have HE := Lib.hid hE
      obtain ⟨kb, kc2, hkv, _⟩ := HKG4.out.form h1
      have hKG := HKG4.out
      rw [hkv] at hKG
      have e0 := hKG.cells inCells_len rfl 0 h1
      rw [hxe] at e0
      have k0 := e0 0 _ rfl
      simp only [Nat.zero_mul, Nat.zero_add] at k0
      rw [hkv] at b1
      rw [h0] at b0
      have h1i : (0 : Int) < ((t1.nd t.root).ks.length : Int) := by omega
      obtain ⟨T5, U5⟩ := HT4.out.setRoot x
      rw [HL.out.2.2.2.2.2] at T5 U5
      have hl3 := HL.out.1
      have hl4 := HL.out.2.1
      have hD := drop_any T5 (by show t3.nodes.length ≤ _; omega) (by show t3.free.length ≤ _; rw [HL.out.2.2.2.1]; omega) t.root (by show t.root < t3.nodes.length; omega)
      rw [HL.out.2.2.2.2.2] at hD
      unfold ptrV DropSaid at hD
      have HD := Lib.hid hD
      have HU5 := Lib.hid (U4.out.trans U5)
      clear h0 h2 hE hx hxe hkv hKG e0 hD T5 U5 hl3 hl4 hxk hok
      go_wp2_with (go_at_call 37; (with_reducible refine HD.out.mono ?_); rintro e w6 ⟨m6, rfl, T6, U6⟩)
      go_ret2
      exact ⟨m6, rfl, by rw [HE.out]; exact T6, HU5.out.trans U6⟩
    · have hE : t' = t3 := by
        rw [← HSh.out]
        unfold shrinkT
        rw [HL.out.2.2.1, hnd3, if_neg hsh]
      have HE := Lib.hid hE
      clear hE
      by_cases h0 : (t1.nd t.root).ps.length = 0
      · have h1 : (t1.nd t.root).ks.length = 0 := by omega
        have HH := Lib.hid h0
        rw [h0] at b0
        rw [h1] at b1
        clear h0 h1 hsh
        go_wp2
        go_ret2
        exact ⟨m2, rfl, by rw [HE.out]; exact HT4.out, U4.out⟩
      · have h0b : (((t1.nd t.root).ps.length : Int) == 0) = false := beq_eq_false_iff_ne.2 (by omega)
        clear h0 hsh
        go_wp2
        go_ret2
        exact ⟨m2, rfl, by rw [HE.out]; exact HT4.out, U4.out⟩
set_option maxRecDepth 100000 in
set_option maxHeartbeats 1000000 in
/-- Delete where it is not. -/
theorem del_no (h : TreeAt m t w) {hi : Nat} (hwf : t.wf d hi) (hn : t.nodes.length ≤ 100000) (hhas : hasF (t.cont d t.root) k = false) :
    Calls Try.prog 22 #[ptrV m.g, .string (bs k)] w (SetAt m t 0 false w) := by
  have hG := get_any h (by omega) d hwf.good.ok k
  rw [get_law d t.root k hwf.good hwf.sorted _ (Nat.le_refl _), hhas, num_no hhas] at hG
  unfold ptrV at hG
  have HG := Lib.hid hG
  have H := Lib.hid h
  clear hwf hG hhas h
  unfold ptrV
  go_enter Try.func22, Try.ntmps22
  go_wp2_with (go_at_call 19; (with_reducible refine HG.out.mono ?_); rintro e w1 ⟨rfl, hB1⟩)
  go_ret2
  exact ⟨m, rfl, H.out.grew hB1, Stp.of_below hB1⟩
/-- A taking away from a tree in memory. -/
theorem del_any (h : TreeAt m t w) {hi : Nat} (hwf : t.wf d hi) (hd : d ≤ 390) (hn : t.nodes.length ≤ 100000) (hmm : t.many ≤ 1000000) (k : Key) :
    ∃ t' d', t'.wf d' hi ∧ t'.cont d' t'.root = delF (t.cont d t.root) k ∧ d' ≤ d ∧
      Calls Try.prog 22 #[ptrV m.g, .string (bs k)] w (SetAt m t' (numF (t.cont d t.root) k) (hasF (t.cont d t.root) k) w) := by
  cases hh : hasF (t.cont d t.root) k with
  | true =>
    obtain ⟨t', e, d', q1, q2, q3⟩ := del_whole hwf hd k hh
    exact ⟨t', d', q1, q2, q3, del_has h hwf hd hn hmm hh t' e⟩
  | false =>
    refine ⟨t, d, hwf, by unfold delF; rw [hh, if_neg (by simp)], Nat.le_refl _, ?_⟩
    rw [num_no hh]
    exact del_no h hwf hn hh
end
end Go.Proofs.Yteoibolompiohaa
