/- The walk of the reference's ParseAnswer. Printed by gen/genTalVe.py. Conditions: as each theorem says. -/
import Derived.Test.YtlcblkmmkphpmaaTalVc
namespace Go.Proofs.Ytlcblkmmkphpmaa
open Go.RowKit

theorem rows_after2 {base : Nat} {wa wb : World} {u : Value} {L : List (Ans × Value)} (hG : Grow AnT 4 anV base u L wa) (o : Obj) (h : (wa.alloc o).grownBy wb u.ownBlock) {x : Ans} {s : Value}
    (hkv : KvAll base L wa) (hk : Grow KvT 6 kvV base s x.kvs wa) : KvAll base (L ++ [(x, s)]) wb := by
  have hGa := hG.below (alloc_below wa o)
  intro p hp
  rcases List.mem_append.1 hp with hp | hp
  · exact hGa.apart h ((hkv p hp).below (alloc_below wa o)) (by decide)
  · simp only [List.mem_cons, List.not_mem_nil, or_false] at hp
    subst hp
    exact hGa.apart h (hk.below (alloc_below wa o)) (by decide)
theorem kvall_gr {base q : Nat} {D : List (Ans × Value)} {a b : World} (h : KvAll base D a) (g : Gr2 q q a b) (hq : q < base) : KvAll base D b := fun p hp => g.grow (h p hp) hq hq
theorem kvall_set {k : Nat} {D : List (Ans × Value)} {a : World} (h : KvAll (k + 1) D a) (o : Nat) (x : Value) : KvAll (k + 1) D (a.setCell ⟨k, o, none⟩ x) := fun p hp => Mk.row_set (h p hp) o x
set_option maxRecDepth 100000 in
set_option maxHeartbeats 20000000 in
theorem rhear_at (l : Byt) (hl : l.length ≤ 9223372036854775807) (x : Res) (n : Nat) (hx : hearL l = (x, n)) (w : World) : Calls Try.prog 25 #[.string (bs l)] w (HearSaid w x n) := by
  obtain ⟨xe, xr, xt, xa, xk⟩ := x
  have l0 : Bd ⟨l, 0⟩ := hl
  have htq : (w.heap.size + 1 + 1) ≠ (w.heap.size + 1) := by omega
  obtain ⟨a0, r1, e0⟩ : ∃ a s, numR ⟨l, 0⟩ = (a, s) := ⟨_, _, rfl⟩
  obtain ⟨a1, r2, e1⟩ : ∃ a s, numR r1 = (a, s) := ⟨_, _, rfl⟩
  obtain ⟨a2, r3, e2⟩ : ∃ a s, flagR r2 = (a, s) := ⟨_, _, rfl⟩
  have l1 := bd_num e0 l0
  have l2 := bd_num e1 l1
  have l3 := bd_flag e2 l2
  have H0 := Lib.hid (fun X hX => rnum_at (w.heap.size + 1 + 1) (w.heap.size + 1) htq ⟨l, 0⟩ l0 e0 X hX)
  have H1 := Lib.hid (fun X hX => rnum_at (w.heap.size + 1 + 1) (w.heap.size + 1) htq r1 l1 e1 X hX)
  have H2 := Lib.hid (fun X hX => rflag_at (w.heap.size + 1 + 1) (w.heap.size + 1) htq r2 l2 e2 X hX)
  have HMN := Lib.hid (fun X hX => rmany_any (w.heap.size + 1 + 1) (w.heap.size + 1) htq r3 l3 X hX)
  have HQ0 := Lib.hid e0
  have HQ1 := Lib.hid e1
  have HQ2 := Lib.hid e2
  have hL : anC.list.rd r3 = itemsR anC.rd (manyR r3).1 (manyR r3).2 := rfl
  have hl2 : Bd (manyR r3).2 := Nat.le_trans (many_len r3) l3
  have hm3 := (many_is r3).2.2
  obtain ⟨p1, p2, p3, p4⟩ := pw0_at w 48 [.int .i64 0, .int .i64 0, .bool false, .slice none 0 0, .int .i64 0] l
  have hM0 : Mx (w.heap.size + 1 + 1) (w.heap.size + 1) (w.heap.size + 1 + 1 + 1) 48 ⟨l, 0⟩ [.int .i64 0, .int .i64 0, .bool false, .slice none 0 0, .int .i64 0] (pw0 w 48 [.int .i64 0, .int .i64 0, .bool false, .slice none 0 0, .int .i64 0] l) ((pw0 w 48 [.int .i64 0, .int .i64 0, .bool false, .slice none 0 0, .int .i64 0] l).alloc (.cells #[.int .i64 0, .int .i64 0, .bool false, .slice none 0 0, .int .i64 0] 48)) := mx_start p1 [.int .i64 0, .int .i64 0, .bool false, .slice none 0 0, .int .i64 0] p4
  have HJ := Lib.hid p2
  have HBW := Lib.hid p3
  unfold pw0 at hM0
  have ct := hM0.hs.c0
  have HM0 := Lib.hid hM0
  unfold pw0 at HJ HBW
  clear hM0 p1 p2 p3 p4 l0 l1 l2 l3 e0 e1 e2 hl
  generalize manyR r3 = mr at *
  obtain ⟨N, ra⟩ := mr
  simp only at HMN hm3 hl2 hL
  have HL := Lib.hid hL
  clear hL
  go_enter Try.func25, Try.ntmps25
  go_wp2_with (first
    | (go_at_call 32; (with_reducible refine (H0.out _ HM0.out.hs).mono ?_); rintro e w0 ⟨rfl, hs, hg⟩; have hX := HM0.out.call hs hg; have d0 := BlkAt.cell hX.hk (i := 0) rfl; have f0 := BlkAt.frozen hX.hk 0; have hM : Mx (w.heap.size + 1 + 1) (w.heap.size + 1) (w.heap.size + 1 + 1 + 1) 48 r1 [.int .i64 a0, .int .i64 0, .bool false, .slice none 0 0, .int .i64 0] (((w.alloc (.cells #[.int .i64 0, .int .i64 0, .bool false, .slice none 0 0, .int .i64 0] 48)).alloc (.cells #[.string (bs l), .int .i64 0] RfRd)).alloc (.cells #[.pointer (some ⟨w.heap.size + 1, 0, none⟩)] TkT)) (w0.setCell ⟨(w.heap.size + 1 + 1 + 1), 0, none⟩ (.int .i64 a0)) := (hX.set 0 (.int .i64 a0)); have ct := hM.hs.c0; have HM1 := Lib.hid hM; clear hM hX hs hg)
    | (go_at_call 32; (with_reducible refine (H1.out _ HM1.out.hs).mono ?_); rintro e w1 ⟨rfl, hs, hg⟩; have hX := HM1.out.call hs hg; have d1 := BlkAt.cell hX.hk (i := 1) rfl; have f1 := BlkAt.frozen hX.hk 1; have hM : Mx (w.heap.size + 1 + 1) (w.heap.size + 1) (w.heap.size + 1 + 1 + 1) 48 r2 [.int .i64 a0, .int .i64 a1, .bool false, .slice none 0 0, .int .i64 0] (((w.alloc (.cells #[.int .i64 0, .int .i64 0, .bool false, .slice none 0 0, .int .i64 0] 48)).alloc (.cells #[.string (bs l), .int .i64 0] RfRd)).alloc (.cells #[.pointer (some ⟨w.heap.size + 1, 0, none⟩)] TkT)) (w1.setCell ⟨(w.heap.size + 1 + 1 + 1), 1, none⟩ (.int .i64 a1)) := (hX.set 1 (.int .i64 a1)); have ct := hM.hs.c0; have HM2 := Lib.hid hM; clear hM hX hs hg)
    | (go_at_call 33; (with_reducible refine (H2.out _ HM2.out.hs).mono ?_); rintro e w2 ⟨rfl, hs, hg⟩; have hX := HM2.out.call hs hg; have d2 := BlkAt.cell hX.hk (i := 2) rfl; have f2 := BlkAt.frozen hX.hk 2; have hM : Mx (w.heap.size + 1 + 1) (w.heap.size + 1) (w.heap.size + 1 + 1 + 1) 48 r3 [.int .i64 a0, .int .i64 a1, .bool a2, .slice none 0 0, .int .i64 0] (((w.alloc (.cells #[.int .i64 0, .int .i64 0, .bool false, .slice none 0 0, .int .i64 0] 48)).alloc (.cells #[.string (bs l), .int .i64 0] RfRd)).alloc (.cells #[.pointer (some ⟨w.heap.size + 1, 0, none⟩)] TkT)) (w2.setCell ⟨(w.heap.size + 1 + 1 + 1), 2, none⟩ (.bool a2)) := (hX.set 2 (.bool a2)); have ct := hM.hs.c0; have HM3 := Lib.hid hM; clear hM hX hs hg)
    | (go_at_call 57; (with_reducible refine (HMN.out _ HM3.out.hs).mono ?_); rintro e w9 ⟨rfl, hs, hg⟩; have HX0 := Lib.hid (HM3.out.call hs hg); clear hs hg HM3))
  go_loopw [7] (fun v7 W => ∃ (i : Nat) (D : List (Ans × Value)) (ri : Rd) (u : Value), v7 = .int .i64 (i : Int) ∧ Mx (w.heap.size + 1 + 1) (w.heap.size + 1) (w.heap.size + 1 + 1 + 1) 48 ri [.int .i64 a0, .int .i64 a1, .bool a2, u, .int .i64 0] (((w.alloc (.cells #[.int .i64 0, .int .i64 0, .bool false, .slice none 0 0, .int .i64 0] 48)).alloc (.cells #[.string (bs l), .int .i64 0] RfRd)).alloc (.cells #[.pointer (some ⟨w.heap.size + 1, 0, none⟩)] TkT)) W ∧ Grow AnT 4 anV ((w.heap.size + 1 + 1 + 1) + 1) u D W ∧ KvAll ((w.heap.size + 1 + 1 + 1) + 1) D W ∧ Bd ri ∧ Way anC (N : Int) N ra i (D.map (fun p => p.1)) ri) (fun v7 _ => N - (intOf v7).toNat)
  case atStart => exact ⟨0, [], ra, _, rfl, HX0.out, Grow.nil _, fun p hp => absurd hp (by simp), hl2, way_start _ _ _ _ (fun _ => rfl)⟩
  case round =>
    obtain ⟨i, D, ri, u, rfl, hX, hG, hkv, hbd, hway⟩ := hrel
    generalize wr = wo at *
    have hln : D.length = i := by have := hway.len; rwa [List.length_map] at this
    obtain ⟨a0_, c0_, hv6⟩ := hG.slice
    rw [hln] at hv6
    subst hv6
    have hT := hX.hs
    have hsz := hX.hk.lt
    have HX := Lib.hid hX
    have HG := Lib.hid hG
    have HKV := Lib.hid hkv
    have HWY := Lib.hid hway
    have HDl := Lib.hid hln
    have hle := hway.le
    clear hG hX hway hkv hln HX0 HMN H0 H1 H2 HM0
    have HWL := Lib.hid (rwell_any (w.heap.size + 1 + 1) (w.heap.size + 1) ri wo hT)
    have ct := hT.c0
    by_cases hlt : i < N
    · have q0 : decide (i < N) = true := decide_eq_true hlt
      by_cases he : ri.e = 0
      · rw [decide_eq_true he] at HWL
        have HE0 := Lib.hid he
        obtain ⟨b0, s1, g0⟩ : ∃ a s, numR ri = (a, s) := ⟨_, _, rfl⟩
        have HE1 := Lib.hid g0
        have m1 := bd_num g0 hbd
        have A0 := Lib.hid (fun X hX => rnum_at (w.heap.size + 1 + 1) (w.heap.size + 1) htq ri hbd g0 X hX)
        have HMK := Lib.hid (fun X hX => rmany_any (w.heap.size + 1 + 1) (w.heap.size + 1) htq s1 m1 X hX)
        have hLK : kvC.list.rd s1 = itemsR kvC.rd (manyR s1).1 (manyR s1).2 := rfl
        have hbk : Bd (manyR s1).2 := Nat.le_trans (many_len s1) m1
        have hmk := (many_is s1).2.2
        have hC0 : Mx (w.heap.size + 1 + 1) (w.heap.size + 1) wo.heap.size 99 ri [.int .i64 0, .slice none 0 0, .int .i64 0, .bool false] wo (wo.alloc (.cells #[.int .i64 0, .slice none 0 0, .int .i64 0, .bool false] 99)) := mx_start hT [.int .i64 0, .slice none 0 0, .int .i64 0, .bool false] rfl
        have ct := hC0.hs.c0
        have HA0 := Lib.hid hC0
        clear hC0 hT he hbd g0 m1 HL
        generalize manyR s1 = mk at *
        obtain ⟨M, mr2⟩ := mk
        simp only at HMK hmk hbk hLK
        have HLK := Lib.hid hLK
        clear hLK
        go_wp2_with (first
          | (go_at_call 58; (with_reducible refine HWL.out.mono ?_); rintro e ww ⟨rfl, hw⟩; have hw := hw.symm; subst hw; clear HWL)
          | (go_at_call 32; (with_reducible refine (A0.out _ HA0.out.hs).mono ?_); rintro e v0 ⟨rfl, hs, hg⟩; have hX := HA0.out.call hs hg; have d0 := BlkAt.cell hX.hk (i := 0) rfl; have f0 := BlkAt.frozen hX.hk 0; have hM : Mx (w.heap.size + 1 + 1) (w.heap.size + 1) wo.heap.size 99 s1 [.int .i64 b0, .slice none 0 0, .int .i64 0, .bool false] wo (v0.setCell ⟨wo.heap.size, 0, none⟩ (.int .i64 b0)) := (hX.set 0 (.int .i64 b0)); have ct := hM.hs.c0; have HA1 := Lib.hid hM; clear hM hX hs hg)
          | (go_at_call 57; (with_reducible refine (HMK.out _ HA1.out.hs).mono ?_); rintro e w9 ⟨rfl, hs, hg⟩; have HI0 := Lib.hid (HA1.out.call hs hg); clear hs hg HA1))
        go_loopw [10] (fun v10 V => ∃ (m : Nat) (E : List Kvr) (rj : Rd) (u2 : Value), v10 = .int .i64 (m : Int) ∧ Mx (w.heap.size + 1 + 1) (w.heap.size + 1) wo.heap.size 99 rj [.int .i64 b0, u2, .int .i64 0, .bool false] wo V ∧ Grow KvT 6 kvV (wo.heap.size + 1) u2 E V ∧ Bd rj ∧ Way kvC (M : Int) M mr2 m E rj) (fun v10 _ => M - (intOf v10).toNat)
        case atStart => exact ⟨0, [], mr2, _, rfl, HI0.out, Grow.nil _, hbk, way_start _ _ _ _ (fun _ => rfl)⟩
        case round =>
          obtain ⟨m, E, rj, u2, rfl, hXA, hGK, hbj, hwayK⟩ := hrel
          obtain ⟨a2_, c2_, hv7⟩ := hGK.slice
          rw [hwayK.len] at hv7
          subst hv7
          have hTj := hXA.hs
          have HXA := Lib.hid hXA
          have HGK := Lib.hid hGK
          have HWK := Lib.hid hwayK
          have HDm := Lib.hid hwayK.len
          have hlm := hwayK.le
          clear hGK hXA hwayK HI0 HMK A0
          have HWI := Lib.hid (rwell_any (w.heap.size + 1 + 1) (w.heap.size + 1) rj wr hTj)
          have ct := hTj.c0
          by_cases hmt : m < M
          · have q1 : decide (m < M) = true := decide_eq_true hmt
            by_cases hej : rj.e = 0
            · rw [decide_eq_true hej] at HWI
              obtain ⟨x0, q1, g0⟩ : ∃ a s, textR rj = (a, s) := ⟨_, _, rfl⟩
              obtain ⟨x1, q2, g1⟩ : ∃ a s, textR q1 = (a, s) := ⟨_, _, rfl⟩
              obtain ⟨x2, q3, g2⟩ : ∃ a s, numR q2 = (a, s) := ⟨_, _, rfl⟩
              obtain ⟨x3, q4, g3⟩ : ∃ a s, numR q3 = (a, s) := ⟨_, _, rfl⟩
              obtain ⟨x4, q5, g4⟩ : ∃ a s, numR q4 = (a, s) := ⟨_, _, rfl⟩
              obtain ⟨x5, q6, g5⟩ : ∃ a s, numR q5 = (a, s) := ⟨_, _, rfl⟩
              have l1 := bd_text g0 hbj
              have l2 := bd_text g1 l1
              have l3 := bd_num g2 l2
              have l4 := bd_num g3 l3
              have l5 := bd_num g4 l4
              have l6 := bd_num g5 l5
              have G0 := Lib.hid (fun X hX => rtext_at (w.heap.size + 1 + 1) (w.heap.size + 1) htq rj hbj g0 X hX)
              have G1 := Lib.hid (fun X hX => rtext_at (w.heap.size + 1 + 1) (w.heap.size + 1) htq q1 l1 g1 X hX)
              have G2 := Lib.hid (fun X hX => rnum_at (w.heap.size + 1 + 1) (w.heap.size + 1) htq q2 l2 g2 X hX)
              have G3 := Lib.hid (fun X hX => rnum_at (w.heap.size + 1 + 1) (w.heap.size + 1) htq q3 l3 g3 X hX)
              have G4 := Lib.hid (fun X hX => rnum_at (w.heap.size + 1 + 1) (w.heap.size + 1) htq q4 l4 g4 X hX)
              have G5 := Lib.hid (fun X hX => rnum_at (w.heap.size + 1 + 1) (w.heap.size + 1) htq q5 l5 g5 X hX)
              have hxk : kvC.rd rj = (⟨x0, x1, x2, x3, x4, x5⟩, q6) := iso_rd (pair_rd g0 (pair_rd g1 (pair_rd g2 (pair_rd g3 (pair_rd g4 g5))))) _ _ _ _
              have hWYK := Lib.hid (HWK.out.next hej hmt hxk)
              have HBDK := Lib.hid l6
              have hK0 : Mx (w.heap.size + 1 + 1) (w.heap.size + 1) wr.heap.size 101 rj [.string ⟨#[]⟩, .string ⟨#[]⟩, .int .i64 0, .int .i64 0, .int .i64 0, .int .i64 0] wr (wr.alloc (.cells #[.string ⟨#[]⟩, .string ⟨#[]⟩, .int .i64 0, .int .i64 0, .int .i64 0, .int .i64 0] 101)) := mx_start hTj [.string ⟨#[]⟩, .string ⟨#[]⟩, .int .i64 0, .int .i64 0, .int .i64 0, .int .i64 0] rfl
              have ct := hK0.hs.c0
              have HK0 := Lib.hid hK0
              clear hK0 hxk HWK g0 g1 g2 g3 g4 g5 l1 l2 l3 l4 l5 l6 hTj hej hbj HLK HE1 HE0 HWY HX HG HKV
              go_upto_region 23 with (first
                | (go_at_call 58; (with_reducible refine HWI.out.mono ?_); rintro e ww ⟨rfl, hw⟩; have hw := hw.symm; subst hw; clear HWI)
                | (go_at_call 59; (with_reducible refine (G0.out _ HK0.out.hs).mono ?_); rintro e u0 ⟨rfl, hs, hg⟩; have hX := HK0.out.call hs hg; have d0 := BlkAt.cell hX.hk (i := 0) rfl; have f0 := BlkAt.frozen hX.hk 0; have hM : Mx (w.heap.size + 1 + 1) (w.heap.size + 1) wr.heap.size 101 q1 [.string (bs x0), .string ⟨#[]⟩, .int .i64 0, .int .i64 0, .int .i64 0, .int .i64 0] wr (u0.setCell ⟨wr.heap.size, 0, none⟩ (.string (bs x0))) := (hX.set 0 (.string (bs x0))); have ct := hM.hs.c0; have HK1 := Lib.hid hM; clear hM hX hs hg)
                | (go_at_call 59; (with_reducible refine (G1.out _ HK1.out.hs).mono ?_); rintro e u1 ⟨rfl, hs, hg⟩; have hX := HK1.out.call hs hg; have d1 := BlkAt.cell hX.hk (i := 1) rfl; have f1 := BlkAt.frozen hX.hk 1; have hM : Mx (w.heap.size + 1 + 1) (w.heap.size + 1) wr.heap.size 101 q2 [.string (bs x0), .string (bs x1), .int .i64 0, .int .i64 0, .int .i64 0, .int .i64 0] wr (u1.setCell ⟨wr.heap.size, 1, none⟩ (.string (bs x1))) := (hX.set 1 (.string (bs x1))); have ct := hM.hs.c0; have HK2 := Lib.hid hM; clear hM hX hs hg)
                | (go_at_call 32; (with_reducible refine (G2.out _ HK2.out.hs).mono ?_); rintro e u2 ⟨rfl, hs, hg⟩; have hX := HK2.out.call hs hg; have d2 := BlkAt.cell hX.hk (i := 2) rfl; have f2 := BlkAt.frozen hX.hk 2; have hM : Mx (w.heap.size + 1 + 1) (w.heap.size + 1) wr.heap.size 101 q3 [.string (bs x0), .string (bs x1), .int .i64 x2, .int .i64 0, .int .i64 0, .int .i64 0] wr (u2.setCell ⟨wr.heap.size, 2, none⟩ (.int .i64 x2)) := (hX.set 2 (.int .i64 x2)); have ct := hM.hs.c0; have HK3 := Lib.hid hM; clear hM hX hs hg)
                | (go_at_call 32; (with_reducible refine (G3.out _ HK3.out.hs).mono ?_); rintro e u3 ⟨rfl, hs, hg⟩; have hX := HK3.out.call hs hg; have d3 := BlkAt.cell hX.hk (i := 3) rfl; have f3 := BlkAt.frozen hX.hk 3; have hM : Mx (w.heap.size + 1 + 1) (w.heap.size + 1) wr.heap.size 101 q4 [.string (bs x0), .string (bs x1), .int .i64 x2, .int .i64 x3, .int .i64 0, .int .i64 0] wr (u3.setCell ⟨wr.heap.size, 3, none⟩ (.int .i64 x3)) := (hX.set 3 (.int .i64 x3)); have ct := hM.hs.c0; have HK4 := Lib.hid hM; clear hM hX hs hg)
                | (go_at_call 32; (with_reducible refine (G4.out _ HK4.out.hs).mono ?_); rintro e u4 ⟨rfl, hs, hg⟩; have hX := HK4.out.call hs hg; have d4 := BlkAt.cell hX.hk (i := 4) rfl; have f4 := BlkAt.frozen hX.hk 4; have hM : Mx (w.heap.size + 1 + 1) (w.heap.size + 1) wr.heap.size 101 q5 [.string (bs x0), .string (bs x1), .int .i64 x2, .int .i64 x3, .int .i64 x4, .int .i64 0] wr (u4.setCell ⟨wr.heap.size, 4, none⟩ (.int .i64 x4)) := (hX.set 4 (.int .i64 x4)); have ct := hM.hs.c0; have HK5 := Lib.hid hM; clear hM hX hs hg)
                | (go_at_call 32; (with_reducible refine (G5.out _ HK5.out.hs).mono ?_); rintro e u5 ⟨rfl, hs, hg⟩; have hX := HK5.out.call hs hg; have d5 := BlkAt.cell hX.hk (i := 5) rfl; have f5 := BlkAt.frozen hX.hk 5; have hM : Mx (w.heap.size + 1 + 1) (w.heap.size + 1) wr.heap.size 101 q6 [.string (bs x0), .string (bs x1), .int .i64 x2, .int .i64 x3, .int .i64 x4, .int .i64 x5] wr (u5.setCell ⟨wr.heap.size, 5, none⟩ (.int .i64 x5)) := (hX.set 5 (.int .i64 x5)); have ct := hM.hs.c0; have y0 := BlkAt.cell hM.hk (i := 0) rfl; have y1 := BlkAt.cell hM.hk (i := 1) rfl; have y2 := BlkAt.cell hM.hk (i := 2) rfl; have y3 := BlkAt.cell hM.hk (i := 3) rfl; have y4 := BlkAt.cell hM.hk (i := 4) rfl; have y5 := BlkAt.cell hM.hk (i := 5) rfl; have HK6 := Lib.hid hM; clear hM hX hs hg))
              generalize (World.setCell u5 ⟨wr.heap.size, 5, none⟩ (.int .i64 x5)) = wq at *
              have hXq := HXA.out.call HK6.out.hs HK6.out.hg
              have hGr := HXA.out.row_call HGK.out HK6.out.hg
              have c1 := BlkAt.cell hXq.hk (i := 1) rfl
              have hbs := hXq.hk.lt
              have HXq := Lib.hid hXq
              clear hXq
              go_wp2_with (at_builtin; refine wpList_append_grow rfl _ _ _ rfl Try.underlying97 _ _ infoKv rfl (by decide) rfl hGr (by omega) ⟨x0, x1, x2, x3, x4, x5⟩ _ rfl rfl (kv_one ⟨x0, x1, x2, x3, x4, x5⟩) rfl (by rw [HDm.out]; unfold maxLen; omega) (by rw [HDm.out]; omega) ?_; intro v2 w6 hG6 hg6; obtain ⟨a6, c6, hv2⟩ := hG6.slice; rw [app_len HDm.out] at hv2; subst hv2; have hX6 := HXq.out.row_app _ hGr hg6; have c16 := BlkAt.cell hX6.hk (i := 1) rfl; have f16 := BlkAt.frozen hX6.hk 1; have h16 := hX6.hk.lt; have HX7 := Lib.hid (hX6.set 1 (.slice a6 (m + 1) c6)); have HG7 := Lib.hid (Mk.row_set hG6 1 (.slice a6 (m + 1) c6)); clear hG6 hg6 hGr hX6)
              go_roundw
              case rel => exact ⟨m + 1, _, q6, _, by go_num, HX7.out, HG7.out, HBDK.out, hWYK.out⟩
              case measure => simp [intOf]; omega
            · rw [decide_eq_false hej] at HWI
              have hD : kvC.list.rd s1 = (E, rj) := HLK.out.trans (HWK.out.done (.inl hej))
              clear HWK hej hTj HLK
              obtain ⟨b2, s3, g2⟩ : ∃ a s, numR rj = (a, s) := ⟨_, _, rfl⟩
              obtain ⟨b3, s4, g3⟩ : ∃ a s, flagR s3 = (a, s) := ⟨_, _, rfl⟩
              have n1 := bd_num g2 hbj
              have n2 := bd_flag g3 n1
              have B0 := Lib.hid (fun X hX => rnum_at (w.heap.size + 1 + 1) (w.heap.size + 1) htq rj hbj g2 X hX)
              have B1 := Lib.hid (fun X hX => rflag_at (w.heap.size + 1 + 1) (w.heap.size + 1) htq s3 n1 g3 X hX)
              have hxa : anC.rd ri = (⟨b0, E, b2, b3⟩, s4) := iso_rd (pair_rd HE1.out (pair_rd hD (pair_rd g2 g3))) _ _ _ _
              have hWYA := Lib.hid (HWY.out.next HE0.out hlt hxa)
              have HBDA := Lib.hid n2
              have HT0 := HXA
              have HRK := HGK
              have ct := HT0.out.hs.c0
              have hjl : E.length = m := HDm.out
              have HEL := Lib.hid hjl
              clear hjl hxa hD g2 g3 n1 n2 hbj HXA HGK
              go_upto_region 26 with (first
                | (go_at_call 58; (with_reducible refine HWI.out.mono ?_); rintro e ww ⟨rfl, hw⟩; have hw := hw.symm; subst hw; clear HWI)
                | (go_at_call 32; (with_reducible refine (B0.out _ HT0.out.hs).mono ?_); rintro e z0 ⟨rfl, hs, hg⟩; have hX := HT0.out.call hs hg; have d2 := BlkAt.cell hX.hk (i := 2) rfl; have f2 := BlkAt.frozen hX.hk 2; have nHRK := Lib.hid (Mk.row_set (HT0.out.row_call HRK.out hg) 2 (.int .i64 b2)); clear HRK; have HRK := nHRK; clear nHRK; have hM : Mx (w.heap.size + 1 + 1) (w.heap.size + 1) wo.heap.size 99 s3 [.int .i64 b0, .slice a2_ m c2_, .int .i64 b2, .bool false] wo (z0.setCell ⟨wo.heap.size, 2, none⟩ (.int .i64 b2)) := (hX.set 2 (.int .i64 b2)); have ct := hM.hs.c0; have HT1 := Lib.hid hM; clear hM hX hs hg)
                | (go_at_call 33; (with_reducible refine (B1.out _ HT1.out.hs).mono ?_); rintro e z1 ⟨rfl, hs, hg⟩; have hX := HT1.out.call hs hg; have d3 := BlkAt.cell hX.hk (i := 3) rfl; have f3 := BlkAt.frozen hX.hk 3; have nHRK := Lib.hid (Mk.row_set (HT1.out.row_call HRK.out hg) 3 (.bool b3)); clear HRK; have HRK := nHRK; clear nHRK; have hM : Mx (w.heap.size + 1 + 1) (w.heap.size + 1) wo.heap.size 99 s4 [.int .i64 b0, .slice a2_ m c2_, .int .i64 b2, .bool b3] wo (z1.setCell ⟨wo.heap.size, 3, none⟩ (.bool b3)) := (hX.set 3 (.bool b3)); have ct := hM.hs.c0; have y0 := BlkAt.cell hM.hk (i := 0) rfl; have y1 := BlkAt.cell hM.hk (i := 1) rfl; have y2 := BlkAt.cell hM.hk (i := 2) rfl; have y3 := BlkAt.cell hM.hk (i := 3) rfl; have HT2 := Lib.hid hM; clear hM hX hs hg))
              generalize (World.setCell z1 ⟨wo.heap.size, 3, none⟩ (.bool b3)) = wq at *
              have hXq := HX.out.call HT2.out.hs HT2.out.hg
              have hGr := HX.out.row_call HG.out HT2.out.hg
              have HKV2 := Lib.hid (kvall_gr HKV.out HT2.out.hg (by omega))
              have c3 := BlkAt.cell hXq.hk (i := 3) rfl
              have hbs := hXq.hk.lt
              have HXq := Lib.hid hXq
              have hsw := hsz
              have HRKm : Hid (Grow KvT 6 kvV ((w.heap.size + 1 + 1 + 1) + 1) (.slice a2_ m c2_) E wq) := Lib.hid (HRK.out.mono (by omega))
              clear hXq
              go_wp2_with (at_builtin; refine wpList_append_grow rfl _ _ _ rfl Try.underlying46 _ _ infoAn rfl (by decide) rfl hGr (by omega) (⟨b0, E, b2, b3⟩, .slice a2_ m c2_) _ rfl rfl (an_one ⟨b0, E, b2, b3⟩ a2_ m c2_) rfl (by rw [HDl.out]; unfold maxLen; omega) (by rw [HDl.out]; omega) ?_; intro v2 w6 hG6 hg6; obtain ⟨a6, c6, hv2⟩ := hG6.slice; rw [app_len HDl.out] at hv2; subst hv2; have hX6 := HXq.out.row_app _ hGr hg6; have c16 := BlkAt.cell hX6.hk (i := 3) rfl; have f16 := BlkAt.frozen hX6.hk 3; have h16 := hX6.hk.lt; have HX7 := Lib.hid (hX6.set 3 (.slice a6 (i + 1) c6)); have HG7 := Lib.hid (Mk.row_set hG6 3 (.slice a6 (i + 1) c6)); have HK7 := Lib.hid (kvall_set (rows_after2 (x := ⟨b0, E, b2, b3⟩) hGr _ hg6 HKV2.out HRKm.out) 3 (.slice a6 (i + 1) c6)); clear hG6 hg6 hGr hX6)
              go_roundw
              case rel => exact ⟨i + 1, _, s4, _, by go_num, HX7.out, HG7.out, HK7.out, HBDA.out, by rw [List.map_append]; exact hWYA.out⟩
              case measure => simp [intOf]; omega
          · have q1 : decide (m < M) = false := decide_eq_false hmt
            have hD : kvC.list.rd s1 = (E, rj) := HLK.out.trans (HWK.out.done (.inr hmt))
            clear HWK HWI hTj HLK
            obtain ⟨b2, s3, g2⟩ : ∃ a s, numR rj = (a, s) := ⟨_, _, rfl⟩
            obtain ⟨b3, s4, g3⟩ : ∃ a s, flagR s3 = (a, s) := ⟨_, _, rfl⟩
            have n1 := bd_num g2 hbj
            have n2 := bd_flag g3 n1
            have B0 := Lib.hid (fun X hX => rnum_at (w.heap.size + 1 + 1) (w.heap.size + 1) htq rj hbj g2 X hX)
            have B1 := Lib.hid (fun X hX => rflag_at (w.heap.size + 1 + 1) (w.heap.size + 1) htq s3 n1 g3 X hX)
            have hxa : anC.rd ri = (⟨b0, E, b2, b3⟩, s4) := iso_rd (pair_rd HE1.out (pair_rd hD (pair_rd g2 g3))) _ _ _ _
            have hWYA := Lib.hid (HWY.out.next HE0.out hlt hxa)
            have HBDA := Lib.hid n2
            have HT0 := HXA
            have HRK := HGK
            have ct := HT0.out.hs.c0
            have hjl : E.length = m := HDm.out
            have HEL := Lib.hid hjl
            clear hjl hxa hD g2 g3 n1 n2 hbj HXA HGK
            go_upto_region 26 with (first
              | (go_at_call 32; (with_reducible refine (B0.out _ HT0.out.hs).mono ?_); rintro e z0 ⟨rfl, hs, hg⟩; have hX := HT0.out.call hs hg; have d2 := BlkAt.cell hX.hk (i := 2) rfl; have f2 := BlkAt.frozen hX.hk 2; have nHRK := Lib.hid (Mk.row_set (HT0.out.row_call HRK.out hg) 2 (.int .i64 b2)); clear HRK; have HRK := nHRK; clear nHRK; have hM : Mx (w.heap.size + 1 + 1) (w.heap.size + 1) wo.heap.size 99 s3 [.int .i64 b0, .slice a2_ m c2_, .int .i64 b2, .bool false] wo (z0.setCell ⟨wo.heap.size, 2, none⟩ (.int .i64 b2)) := (hX.set 2 (.int .i64 b2)); have ct := hM.hs.c0; have HT1 := Lib.hid hM; clear hM hX hs hg)
              | (go_at_call 33; (with_reducible refine (B1.out _ HT1.out.hs).mono ?_); rintro e z1 ⟨rfl, hs, hg⟩; have hX := HT1.out.call hs hg; have d3 := BlkAt.cell hX.hk (i := 3) rfl; have f3 := BlkAt.frozen hX.hk 3; have nHRK := Lib.hid (Mk.row_set (HT1.out.row_call HRK.out hg) 3 (.bool b3)); clear HRK; have HRK := nHRK; clear nHRK; have hM : Mx (w.heap.size + 1 + 1) (w.heap.size + 1) wo.heap.size 99 s4 [.int .i64 b0, .slice a2_ m c2_, .int .i64 b2, .bool b3] wo (z1.setCell ⟨wo.heap.size, 3, none⟩ (.bool b3)) := (hX.set 3 (.bool b3)); have ct := hM.hs.c0; have y0 := BlkAt.cell hM.hk (i := 0) rfl; have y1 := BlkAt.cell hM.hk (i := 1) rfl; have y2 := BlkAt.cell hM.hk (i := 2) rfl; have y3 := BlkAt.cell hM.hk (i := 3) rfl; have HT2 := Lib.hid hM; clear hM hX hs hg))
            generalize (World.setCell z1 ⟨wo.heap.size, 3, none⟩ (.bool b3)) = wq at *
            have hXq := HX.out.call HT2.out.hs HT2.out.hg
            have hGr := HX.out.row_call HG.out HT2.out.hg
            have HKV2 := Lib.hid (kvall_gr HKV.out HT2.out.hg (by omega))
            have c3 := BlkAt.cell hXq.hk (i := 3) rfl
            have hbs := hXq.hk.lt
            have HXq := Lib.hid hXq
            have hsw := hsz
            have HRKm : Hid (Grow KvT 6 kvV ((w.heap.size + 1 + 1 + 1) + 1) (.slice a2_ m c2_) E wq) := Lib.hid (HRK.out.mono (by omega))
            clear hXq
            go_wp2_with (at_builtin; refine wpList_append_grow rfl _ _ _ rfl Try.underlying46 _ _ infoAn rfl (by decide) rfl hGr (by omega) (⟨b0, E, b2, b3⟩, .slice a2_ m c2_) _ rfl rfl (an_one ⟨b0, E, b2, b3⟩ a2_ m c2_) rfl (by rw [HDl.out]; unfold maxLen; omega) (by rw [HDl.out]; omega) ?_; intro v2 w6 hG6 hg6; obtain ⟨a6, c6, hv2⟩ := hG6.slice; rw [app_len HDl.out] at hv2; subst hv2; have hX6 := HXq.out.row_app _ hGr hg6; have c16 := BlkAt.cell hX6.hk (i := 3) rfl; have f16 := BlkAt.frozen hX6.hk 3; have h16 := hX6.hk.lt; have HX7 := Lib.hid (hX6.set 3 (.slice a6 (i + 1) c6)); have HG7 := Lib.hid (Mk.row_set hG6 3 (.slice a6 (i + 1) c6)); have HK7 := Lib.hid (kvall_set (rows_after2 (x := ⟨b0, E, b2, b3⟩) hGr _ hg6 HKV2.out HRKm.out) 3 (.slice a6 (i + 1) c6)); clear hG6 hg6 hGr hX6)
            go_roundw
            case rel => exact ⟨i + 1, _, s4, _, by go_num, HX7.out, HG7.out, HK7.out, HBDA.out, by rw [List.map_append]; exact hWYA.out⟩
            case measure => simp [intOf]; omega
      · rw [decide_eq_false he] at HWL
        have hD : anC.list.rd r3 = (D.map (fun p => p.1), ri) := HL.out.trans (HWY.out.done (.inl he))
        clear HWY he hT HL
        obtain ⟨a4, r5, g4⟩ : ∃ a s, numR ri = (a, s) := ⟨_, _, rfl⟩
        have D0 := Lib.hid (fun X hX => rnum_at (w.heap.size + 1 + 1) (w.heap.size + 1) htq ri hbd g4 X hX)
        have HEN := Lib.hid (fun X hX => rend_at (w.heap.size + 1 + 1) (w.heap.size + 1) r5 X hX)
        have hA : rsC.rd ⟨l, 0⟩ = (⟨a0, a1, a2, D.map (fun p => p.1), a4⟩, r5) := iso_rd (pair_rd HQ0.out (pair_rd HQ1.out (pair_rd HQ2.out (pair_rd hD g4)))) _ _ _ _
        unfold hearL at hx
        rw [hA] at hx
        simp only at hx
        have HY0 := HX
        have ct := HY0.out.hs.c0
        clear hA hD g4 hbd HX
        by_cases hz : endR r5 = 0
        · rw [if_pos hz] at hx
          rw [hz] at HEN
          injection hx with h1 h2
          injection h1 with i1 i2 i3 i4 i5
          subst h2 i1 i2 i3 i4 i5
          clear hz
          go_wp2_with (first
            | (go_at_call 58; (with_reducible refine HWL.out.mono ?_); rintro e ww ⟨rfl, hw⟩; have hw := hw.symm; subst hw; clear HWL)
            | (go_at_call 32; (with_reducible refine (D0.out _ HY0.out.hs).mono ?_); rintro e wt0 ⟨rfl, hs, hg⟩; have hX := HY0.out.call hs hg; have HKV9 := Lib.hid (kvall_set (kvall_gr HKV.out hg (by omega)) 4 (.int .i64 a4)); have d4 := BlkAt.cell hX.hk (i := 4) rfl; have f4 := BlkAt.frozen hX.hk 4; have nHG := Lib.hid (Mk.row_set (HY0.out.row_call HG.out hg) 4 (.int .i64 a4)); clear HG; have HG := nHG; clear nHG; have hM : Mx (w.heap.size + 1 + 1) (w.heap.size + 1) (w.heap.size + 1 + 1 + 1) 48 r5 [.int .i64 a0, .int .i64 a1, .bool a2, .slice a0_ i c0_, .int .i64 a4] (((w.alloc (.cells #[.int .i64 0, .int .i64 0, .bool false, .slice none 0 0, .int .i64 0] 48)).alloc (.cells #[.string (bs l), .int .i64 0] RfRd)).alloc (.cells #[.pointer (some ⟨w.heap.size + 1, 0, none⟩)] TkT)) (wt0.setCell ⟨(w.heap.size + 1 + 1 + 1), 4, none⟩ (.int .i64 a4)) := (hX.set 4 (.int .i64 a4)); have ct := hM.hs.c0; have y0 := BlkAt.cell hM.hk (i := 0) rfl; have y1 := BlkAt.cell hM.hk (i := 1) rfl; have y2 := BlkAt.cell hM.hk (i := 2) rfl; have y3 := BlkAt.cell hM.hk (i := 3) rfl; have y4 := BlkAt.cell hM.hk (i := 4) rfl; have HY1 := Lib.hid hM; clear hM hX hs hg; have HSt : Hid (Stores Try.prog 48 w.heap.size [.int .i64 a0, .int .i64 a1, .bool a2, .slice a0_ i c0_, .int .i64 a4] #[.int .i64 a0, .int .i64 a1, .bool a2, .slice a0_ i c0_, .int .i64 a4] (World.setCell wt0 ⟨w.heap.size + 1 + 1 + 1, 4, none⟩ (.int .i64 a4))) := Lib.hid (stores_of (HY1.out.old HJ.out (by omega)) (by rfl) (by kernel_rfl) (by intro u hu; simp only [List.mem_cons, List.not_mem_nil, or_false] at hu; rcases hu with rfl | rfl | rfl | rfl | rfl <;> rfl)))
            | (go_at_call 36; (with_reducible refine (HEN.out _ HY1.out.hs).mono ?_); rintro e wy ⟨rfl, rfl⟩; generalize (World.setCell wt0 ⟨w.heap.size + 1 + 1 + 1, 4, none⟩ (.int .i64 a4)) = wq at *)
            | ((with_reducible refine HSt.out _ _ _ _ _ ?_ ?_ ?_); exact rfl; exact ⟨_, _, rfl, rfl, rfl⟩; intro wz hk hg; have hld := run_load_blk (P := Try.prog) hk _ Try.underlying48 rfl (by kernel_rfl)))
          exact bodyPost_ret (v := .tuple #[.agg #[.int .i64 a0, .int .i64 a1, .bool a2, .slice a0_ i c0_, .int .i64 a4], .int .i64 0]) (results_cell2 Try.results25 _ _ _ ⟨w.heap.size, 0, none⟩ _ _ (by rfl) (by rfl) hld) rfl ⟨_, D, rfl, ⟨rfl, (mx_row_end (w0 := w) HG.out hg (by omega) (by omega)).rows anV_len, fun p hp => (mx_row_end (w0 := w) (HKV9.out p hp) hg (by omega) (by omega)).rows kvV_len⟩, mx_fin HY1.out HBW.out (by omega) hg (Nat.le_refl _)⟩
        · rw [if_neg hz] at hx
          injection hx with h1 h2
          unfold zeroRes at h1
          injection h1 with i1 i2 i3 i4 i5
          subst i1 i2 i3 i4 i5
          have hz0 := e_cast12 (endR r5) hz
          obtain ⟨z, hZ⟩ : ∃ z : Int, z = ((endR r5 : Nat) : Int) := ⟨_, rfl⟩
          rw [← hZ] at HEN hz0
          rw [h2] at hZ
          have HZ := Lib.hid hZ
          clear hz hZ h2
          go_wp2_with (first
            | (go_at_call 58; (with_reducible refine HWL.out.mono ?_); rintro e ww ⟨rfl, hw⟩; have hw := hw.symm; subst hw; clear HWL)
            | (go_at_call 32; (with_reducible refine (D0.out _ HY0.out.hs).mono ?_); rintro e wt0 ⟨rfl, hs, hg⟩; have hX := HY0.out.call hs hg; have HKV9 := Lib.hid (kvall_set (kvall_gr HKV.out hg (by omega)) 4 (.int .i64 a4)); have d4 := BlkAt.cell hX.hk (i := 4) rfl; have f4 := BlkAt.frozen hX.hk 4; have nHG := Lib.hid (Mk.row_set (HY0.out.row_call HG.out hg) 4 (.int .i64 a4)); clear HG; have HG := nHG; clear nHG; have hM : Mx (w.heap.size + 1 + 1) (w.heap.size + 1) (w.heap.size + 1 + 1 + 1) 48 r5 [.int .i64 a0, .int .i64 a1, .bool a2, .slice a0_ i c0_, .int .i64 a4] (((w.alloc (.cells #[.int .i64 0, .int .i64 0, .bool false, .slice none 0 0, .int .i64 0] 48)).alloc (.cells #[.string (bs l), .int .i64 0] RfRd)).alloc (.cells #[.pointer (some ⟨w.heap.size + 1, 0, none⟩)] TkT)) (wt0.setCell ⟨(w.heap.size + 1 + 1 + 1), 4, none⟩ (.int .i64 a4)) := (hX.set 4 (.int .i64 a4)); have ct := hM.hs.c0; have y0 := BlkAt.cell hM.hk (i := 0) rfl; have y1 := BlkAt.cell hM.hk (i := 1) rfl; have y2 := BlkAt.cell hM.hk (i := 2) rfl; have y3 := BlkAt.cell hM.hk (i := 3) rfl; have y4 := BlkAt.cell hM.hk (i := 4) rfl; have HY1 := Lib.hid hM; clear hM hX hs hg; have HSt : Hid (Stores Try.prog 48 w.heap.size [.int .i64 0, .int .i64 0, .bool false, .slice none 0 0, .int .i64 0] #[.int .i64 0, .int .i64 0, .bool false, .slice none 0 0, .int .i64 0] (World.setCell wt0 ⟨w.heap.size + 1 + 1 + 1, 4, none⟩ (.int .i64 a4))) := Lib.hid (stores_of (HY1.out.old HJ.out (by omega)) (by rfl) (by kernel_rfl) (by intro u hu; simp only [List.mem_cons, List.not_mem_nil, or_false] at hu; rcases hu with rfl | rfl | rfl | rfl | rfl <;> rfl)))
            | (go_at_call 36; (with_reducible refine (HEN.out _ HY1.out.hs).mono ?_); rintro e wy ⟨rfl, rfl⟩; generalize (World.setCell wt0 ⟨w.heap.size + 1 + 1 + 1, 4, none⟩ (.int .i64 a4)) = wq at *)
            | ((with_reducible refine HSt.out _ _ _ _ _ ?_ ?_ ?_); exact rfl; exact ⟨_, _, rfl, rfl, rfl⟩; intro wz hk hg; have hld := run_load_blk (P := Try.prog) hk _ Try.underlying48 rfl (by kernel_rfl)))
          exact bodyPost_ret (v := .tuple #[.agg #[.int .i64 0, .int .i64 0, .bool false, .slice none 0 0, .int .i64 0], .int .i64 z]) (results_cell2 Try.results25 _ _ _ ⟨w.heap.size, 0, none⟩ _ _ (by rfl) (by rfl) hld) rfl (by rw [HZ.out]; exact hear_no (mx_fin HY1.out HBW.out (by omega) hg (Nat.le_refl _)))
    · have q0 : decide (i < N) = false := decide_eq_false hlt
      have hD : anC.list.rd r3 = (D.map (fun p => p.1), ri) := HL.out.trans (HWY.out.done (.inr hlt))
      clear HWY HWL hT HL
      obtain ⟨a4, r5, g4⟩ : ∃ a s, numR ri = (a, s) := ⟨_, _, rfl⟩
      have D0 := Lib.hid (fun X hX => rnum_at (w.heap.size + 1 + 1) (w.heap.size + 1) htq ri hbd g4 X hX)
      have HEN := Lib.hid (fun X hX => rend_at (w.heap.size + 1 + 1) (w.heap.size + 1) r5 X hX)
      have hA : rsC.rd ⟨l, 0⟩ = (⟨a0, a1, a2, D.map (fun p => p.1), a4⟩, r5) := iso_rd (pair_rd HQ0.out (pair_rd HQ1.out (pair_rd HQ2.out (pair_rd hD g4)))) _ _ _ _
      unfold hearL at hx
      rw [hA] at hx
      simp only at hx
      have HY0 := HX
      have ct := HY0.out.hs.c0
      clear hA hD g4 hbd HX
      by_cases hz : endR r5 = 0
      · rw [if_pos hz] at hx
        rw [hz] at HEN
        injection hx with h1 h2
        injection h1 with i1 i2 i3 i4 i5
        subst h2 i1 i2 i3 i4 i5
        clear hz
        go_wp2_with (first
          | (go_at_call 32; (with_reducible refine (D0.out _ HY0.out.hs).mono ?_); rintro e wt0 ⟨rfl, hs, hg⟩; have hX := HY0.out.call hs hg; have HKV9 := Lib.hid (kvall_set (kvall_gr HKV.out hg (by omega)) 4 (.int .i64 a4)); have d4 := BlkAt.cell hX.hk (i := 4) rfl; have f4 := BlkAt.frozen hX.hk 4; have nHG := Lib.hid (Mk.row_set (HY0.out.row_call HG.out hg) 4 (.int .i64 a4)); clear HG; have HG := nHG; clear nHG; have hM : Mx (w.heap.size + 1 + 1) (w.heap.size + 1) (w.heap.size + 1 + 1 + 1) 48 r5 [.int .i64 a0, .int .i64 a1, .bool a2, .slice a0_ i c0_, .int .i64 a4] (((w.alloc (.cells #[.int .i64 0, .int .i64 0, .bool false, .slice none 0 0, .int .i64 0] 48)).alloc (.cells #[.string (bs l), .int .i64 0] RfRd)).alloc (.cells #[.pointer (some ⟨w.heap.size + 1, 0, none⟩)] TkT)) (wt0.setCell ⟨(w.heap.size + 1 + 1 + 1), 4, none⟩ (.int .i64 a4)) := (hX.set 4 (.int .i64 a4)); have ct := hM.hs.c0; have y0 := BlkAt.cell hM.hk (i := 0) rfl; have y1 := BlkAt.cell hM.hk (i := 1) rfl; have y2 := BlkAt.cell hM.hk (i := 2) rfl; have y3 := BlkAt.cell hM.hk (i := 3) rfl; have y4 := BlkAt.cell hM.hk (i := 4) rfl; have HY1 := Lib.hid hM; clear hM hX hs hg; have HSt : Hid (Stores Try.prog 48 w.heap.size [.int .i64 a0, .int .i64 a1, .bool a2, .slice a0_ i c0_, .int .i64 a4] #[.int .i64 a0, .int .i64 a1, .bool a2, .slice a0_ i c0_, .int .i64 a4] (World.setCell wt0 ⟨w.heap.size + 1 + 1 + 1, 4, none⟩ (.int .i64 a4))) := Lib.hid (stores_of (HY1.out.old HJ.out (by omega)) (by rfl) (by kernel_rfl) (by intro u hu; simp only [List.mem_cons, List.not_mem_nil, or_false] at hu; rcases hu with rfl | rfl | rfl | rfl | rfl <;> rfl)))
          | (go_at_call 36; (with_reducible refine (HEN.out _ HY1.out.hs).mono ?_); rintro e wy ⟨rfl, rfl⟩; generalize (World.setCell wt0 ⟨w.heap.size + 1 + 1 + 1, 4, none⟩ (.int .i64 a4)) = wq at *)
          | ((with_reducible refine HSt.out _ _ _ _ _ ?_ ?_ ?_); exact rfl; exact ⟨_, _, rfl, rfl, rfl⟩; intro wz hk hg; have hld := run_load_blk (P := Try.prog) hk _ Try.underlying48 rfl (by kernel_rfl)))
        exact bodyPost_ret (v := .tuple #[.agg #[.int .i64 a0, .int .i64 a1, .bool a2, .slice a0_ i c0_, .int .i64 a4], .int .i64 0]) (results_cell2 Try.results25 _ _ _ ⟨w.heap.size, 0, none⟩ _ _ (by rfl) (by rfl) hld) rfl ⟨_, D, rfl, ⟨rfl, (mx_row_end (w0 := w) HG.out hg (by omega) (by omega)).rows anV_len, fun p hp => (mx_row_end (w0 := w) (HKV9.out p hp) hg (by omega) (by omega)).rows kvV_len⟩, mx_fin HY1.out HBW.out (by omega) hg (Nat.le_refl _)⟩
      · rw [if_neg hz] at hx
        injection hx with h1 h2
        unfold zeroRes at h1
        injection h1 with i1 i2 i3 i4 i5
        subst i1 i2 i3 i4 i5
        have hz0 := e_cast12 (endR r5) hz
        obtain ⟨z, hZ⟩ : ∃ z : Int, z = ((endR r5 : Nat) : Int) := ⟨_, rfl⟩
        rw [← hZ] at HEN hz0
        rw [h2] at hZ
        have HZ := Lib.hid hZ
        clear hz hZ h2
        go_wp2_with (first
          | (go_at_call 32; (with_reducible refine (D0.out _ HY0.out.hs).mono ?_); rintro e wt0 ⟨rfl, hs, hg⟩; have hX := HY0.out.call hs hg; have HKV9 := Lib.hid (kvall_set (kvall_gr HKV.out hg (by omega)) 4 (.int .i64 a4)); have d4 := BlkAt.cell hX.hk (i := 4) rfl; have f4 := BlkAt.frozen hX.hk 4; have nHG := Lib.hid (Mk.row_set (HY0.out.row_call HG.out hg) 4 (.int .i64 a4)); clear HG; have HG := nHG; clear nHG; have hM : Mx (w.heap.size + 1 + 1) (w.heap.size + 1) (w.heap.size + 1 + 1 + 1) 48 r5 [.int .i64 a0, .int .i64 a1, .bool a2, .slice a0_ i c0_, .int .i64 a4] (((w.alloc (.cells #[.int .i64 0, .int .i64 0, .bool false, .slice none 0 0, .int .i64 0] 48)).alloc (.cells #[.string (bs l), .int .i64 0] RfRd)).alloc (.cells #[.pointer (some ⟨w.heap.size + 1, 0, none⟩)] TkT)) (wt0.setCell ⟨(w.heap.size + 1 + 1 + 1), 4, none⟩ (.int .i64 a4)) := (hX.set 4 (.int .i64 a4)); have ct := hM.hs.c0; have y0 := BlkAt.cell hM.hk (i := 0) rfl; have y1 := BlkAt.cell hM.hk (i := 1) rfl; have y2 := BlkAt.cell hM.hk (i := 2) rfl; have y3 := BlkAt.cell hM.hk (i := 3) rfl; have y4 := BlkAt.cell hM.hk (i := 4) rfl; have HY1 := Lib.hid hM; clear hM hX hs hg; have HSt : Hid (Stores Try.prog 48 w.heap.size [.int .i64 0, .int .i64 0, .bool false, .slice none 0 0, .int .i64 0] #[.int .i64 0, .int .i64 0, .bool false, .slice none 0 0, .int .i64 0] (World.setCell wt0 ⟨w.heap.size + 1 + 1 + 1, 4, none⟩ (.int .i64 a4))) := Lib.hid (stores_of (HY1.out.old HJ.out (by omega)) (by rfl) (by kernel_rfl) (by intro u hu; simp only [List.mem_cons, List.not_mem_nil, or_false] at hu; rcases hu with rfl | rfl | rfl | rfl | rfl <;> rfl)))
          | (go_at_call 36; (with_reducible refine (HEN.out _ HY1.out.hs).mono ?_); rintro e wy ⟨rfl, rfl⟩; generalize (World.setCell wt0 ⟨w.heap.size + 1 + 1 + 1, 4, none⟩ (.int .i64 a4)) = wq at *)
          | ((with_reducible refine HSt.out _ _ _ _ _ ?_ ?_ ?_); exact rfl; exact ⟨_, _, rfl, rfl, rfl⟩; intro wz hk hg; have hld := run_load_blk (P := Try.prog) hk _ Try.underlying48 rfl (by kernel_rfl)))
        exact bodyPost_ret (v := .tuple #[.agg #[.int .i64 0, .int .i64 0, .bool false, .slice none 0 0, .int .i64 0], .int .i64 z]) (results_cell2 Try.results25 _ _ _ ⟨w.heap.size, 0, none⟩ _ _ (by rfl) (by rfl) hld) rfl (by rw [HZ.out]; exact hear_no (mx_fin HY1.out HBW.out (by omega) hg (Nat.le_refl _)))
end Go.Proofs.Ytlcblkmmkphpmaa
