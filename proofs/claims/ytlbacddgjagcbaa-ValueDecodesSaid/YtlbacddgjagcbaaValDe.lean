/- The walk of the program's reader of messages: Sync. Conditions: as each theorem says. -/
import Derived.Test.YtlbacddgjagcbaaValDc
namespace Go.Proofs.Ytlbacddgjagcbaa
open Go.RowKit

/-- Memory of the call's own beside the message under way. -/
theorem Mid.row {TV TR T : TypeId} {v q k j : Nat} {bad : Bool} {r : Rd} {cs zs : List Value} {w0 w w1 : World} {row : Option Nat} (h : Mid TV TR T v q k j bad r cs zs w0 w) (n : Four w0 v q k j) (g : w.grownBy w1 row) {N : Nat} (hN : ∀ b, row = some b → N ≤ b) (hk : k < N) (hj : j < N) (hw : w0.heap.size ≤ N) (hv : v < N) (hq : q < N) :
    Mid TV TR T v q k j bad r cs zs w0 w1 := by
  have ne : ∀ b, b < N → some b ≠ row := fun b hb e => by have := hN b e.symm; omega
  refine ⟨⟨BlkAt.grown h.s.v g (ne v hv), BlkAt.grown (rd_blk h.s.r) g (ne q hq)⟩, BlkAt.grown h.k g (ne k hk), BlkAt.grown h.j g (ne j hj), ?_⟩
  exact ⟨g.os.trans h.g.os, g.tape.trans h.g.tape, g.output.trans h.g.output, Nat.le_trans h.g.size g.size, fun i hi h1 h2 => by rw [g.block i (Nat.lt_of_lt_of_le hi h.g.size) (ne i (Nat.lt_of_lt_of_le hi hw)), h.g.block i hi h1 h2]⟩
theorem own_gr2 {q v : Nat} {w w' : World} {base e size n : Nat} {u : Value} {xs : List Value} (h : w.ownsRow base e size u n xs) (g : Gr2 q v w w') (hq : q < base) (hv : v < base) : w'.ownsRow base e size u n xs := by
  refine ⟨h.1, ?_⟩
  rcases h.2 with h2 | ⟨b, cap, cur, hu, hb, hh, r⟩
  · exact .inl h2
  · exact .inr ⟨b, cap, cur, hu, hb, by rw [g.block b (Array.getElem?_eq_some_iff.1 hh).1 (by omega) (by omega)]; exact hh, r⟩
theorem entsR_stop (k : Nat) (D : List Ent) (r : Rd) (h : r.e ≠ 0) : entsR k D r = (D, r) := by
  cases k with
  | zero => rfl
  | succ k => rw [entsR, if_pos h]
theorem entsR_go (k : Nat) (D : List Ent) (r : Rd) (h : r.e = 0) : entsR (k + 1) D r = entsR k (D ++ [(entR r).1]) (entR r).2 := by rw [entsR, if_neg (by omega)]
theorem own_slice {w : World} {base e size n : Nat} {v : Value} {xs : List Value} (h : w.ownsRow base e size v n xs) : ∃ a c, v = .slice a n c := by
  rcases h.2 with ⟨hv, h0⟩ | ⟨g, cap, cur, hv, _⟩
  · exact ⟨none, 0, by rw [hv, h0]⟩
  · exact ⟨_, _, hv⟩
theorem ents_kept {w w' : World} {a : Option Addr} {cap g : Nat} {L : List Ent} (h : EntsIn w a cap L) (hg : w.grownBy w' (some g)) (hne : ∀ p, a = some p → p.block ≠ g) : EntsIn w' a cap L := by
  refine ⟨h.1, h.2.1, ⟨a, cap, rfl, fun i hi => ?_⟩, h.2.2.2⟩
  obtain ⟨b2, off2, hb, e0, e1, e2⟩ := ents_get h.2.2.1 i hi
  have hn := hne _ hb
  exact ⟨b2, off2, hb, hg.cell e0 (fun e => hn (Option.some.inj e)), hg.cell e1 (fun e => hn (Option.some.inj e)), hg.cell e2 (fun e => hn (Option.some.inj e))⟩
def SyncSaid (v q : Nat) (k p f1 f2 z1 z2 : Int) (b : List UInt8) (L : List Ent) (bad : Bool) (r2 : Rd) (w : World) (e : Ending) (w' : World) : Prop :=
  ∃ a cap, e = .returned (syncV k p (f1, f2) (z1, z2) b (.slice a L.length cap)) ∧ EntsIn w' a cap L ∧ (∀ p, a = some p → w.heap.size ≤ p.block) ∧ Rds VRd PackRd v q bad r2 w' ∧ Gr2 q v w w'

set_option maxRecDepth 100000 in
set_option maxHeartbeats 16000000 in
theorem sync_at (v q : Nat) (hvq : v ≠ q) (bad : Bool) (r r1 r2 r3 r5 r7 r8 r9 : Rd) (a0 a1 a2 a3 a4 a5 a7 : Int) (s6 : List UInt8) (L : List Ent) (hl : r.l.length ≤ 9223372036854775807) (he12 : r.e ≠ 12) (e0 : numR r = (a0, r1)) (e1 : numR r1 = (a1, r2)) (e2 : numsR 2 r2 = ([a2, a3], r3)) (e4 : numsR 2 r3 = ([a4, a5], r5)) (e6 : textR r5 = (s6, r7)) (e7 : numR r7 = (a7, r8)) (e8 : (if badNum a7 = true then ([], r8) else entsR a7.toNat [] r8) = (L, r9)) (w : World) (h : Rds VRd PackRd v q bad r w) :
    Calls Try.prog 78 #[.pointer (some ⟨v, 0, none⟩)] w fun e w' => SyncSaid v q a0 a1 a2 a3 a4 a5 s6 L (badNum a7) r9 w e w' := by
  obtain ⟨i5, hi, hz0, hz1, hz2⟩ := info_parts infoEnt
  have l1 := len_num e0 hl
  have l2 := len_num e1 l1
  have l3 := len_nums e2 l2
  have l5 := len_nums e4 l3
  have l7 := len_text e6 l5
  have l8 := len_num e7 l7
  have t1 : r1.e ≠ 12 := by have := numR_err r he12; rw [e0] at this; exact this
  have t2 : r2.e ≠ 12 := by have := numR_err r1 t1; rw [e1] at this; exact this
  have t3 : r3.e ≠ 12 := by have := numsR_err 2 r2 t2; rw [e2] at this; exact this
  have t5 : r5.e ≠ 12 := by have := numsR_err 2 r3 t3; rw [e4] at this; exact this
  have t7 : r7.e ≠ 12 := by have := textR_err r5 t5; rw [e6] at this; exact this
  have t8 : r8.e ≠ 12 := by have := numR_err r7 t7; rw [e7] at this; exact this
  have H0 := Lib.hid (fun X hX => pnum_at v q hvq bad r hl e0 X hX)
  have H1 := Lib.hid (fun X hX => pnum_at v q hvq bad r1 l1 e1 X hX)
  have H2 := Lib.hid (fun X hX => zx_at v q hvq bad r2 l2 e2 X hX)
  have H4 := Lib.hid (fun X hX => zx_at v q hvq bad r3 l3 e4 X hX)
  have H6 := Lib.hid (fun X hX => ptext_at v q hvq bad r5 l5 e6 X hX)
  have H7 := Lib.hid (fun X hX => pnum_at v q hvq bad r7 l7 e7 X hX)
  have HE := Lib.hid (fun r b hl X hX => ent_at v q hvq b r hl X hX)
  have HW8 := Lib.hid (fun r b he X hX => well_at v q b r he X hX)
  have HL := Lib.hid e8
  unfold SyncSaid syncV
  simp only
  clear hl he12 e8 e0 e1 e2 e4 e6 e7 l1 l2 l3 l5 l7 t1 t2 t3 t5 t7
  obtain ⟨W, hW⟩ : ∃ X, X = w.alloc (.cells #[.int .i64 0, .int .i64 0, .int .i64 0, .int .i64 0, .int .i64 0, .int .i64 0, .string ⟨#[]⟩, .slice none 0 0] 99) := ⟨_, rfl⟩
  have hsW : Rds VRd PackRd v q bad r W := by rw [hW]; exact h.grew (alloc_below w _)
  have HW := Lib.hid hW
  clear hW
  have m0 : W.cell? ⟨v, 0, none⟩ = some (.pointer (some ⟨q, 0, none⟩)) := BlkAt.cell hsW.v rfl
  have hvw := BlkAt.lt h.v
  have hqw := BlkAt.lt (rd_blk h.r)
  go_enter Try.func78, Try.ntmps78
  go_upto_region 1 with (fail)
  rw [← HW.out]
  go_wp2_with (fail)
  refine (H0.out _ hsW).mono ?_
  rintro e w1 ⟨rfl, hs1, hg1⟩
  go_wp2_with (refine wpList_store_blk (by rfl) 99 _ _ (by rfl) w1.heap.size 99 [.int .i64 0, .int .i64 0, .int .i64 0, .int .i64 0, .int .i64 0, .int .i64 0, .string ⟨#[]⟩, .slice none 0 0] [.int .i64 a0, .int .i64 0, .int .i64 0, .int .i64 0, .int .i64 0, .int .i64 0, .string ⟨#[]⟩, .slice none 0 0] (by rfl) (by rfl) (BlkAt.alloc_new w1 _ _) rfl (by kernel_rfl) (by intro u hu; simp only [List.mem_cons, List.not_mem_nil, or_false] at hu; rcases hu with rfl | rfl | rfl | rfl | rfl | rfl | rfl | rfl <;> rfl) ?_)
  intro w2 hk2 hg2
  rw [HW.out] at hg1
  obtain ⟨n4, hM⟩ := mid_start hvq h hs1 hg1 hk2 hg2
  clear hsW hs1 hg1 hk2 hg2 m0 h
  go_upto_region 2 with (fail)
  have m0 := hM.v0
  go_wp2_with (fail)
  refine (H1.out _ hM.s).mono ?_
  rintro e w3 ⟨rfl, hs1, hg1⟩
  have hX := hM.call n4 hs1 hg1
  clear hM hs1 hg1 m0
  have c1 := BlkAt.cell hX.k (i := 1) rfl
  have f1 := BlkAt.frozen hX.k 1
  go_upto_region 3 with (fail)
  have hM := (hX.set n4 1 (.int .i64 a1))
  clear hX c1 f1
  simp only [List.set_cons_zero, List.set_cons_succ] at hM
  generalize (World.setCell w3 ⟨w1.heap.size, 1, none⟩ (.int .i64 a1)) = w4 at *
  go_wp2_with (fail)
  refine (H2.out _ hM.s).mono ?_
  rintro e w5 ⟨rfl, hs1, hg1⟩
  have hX := hM.call n4 hs1 hg1
  clear hM hs1 hg1
  have c2 := BlkAt.cell hX.k (i := 2) rfl
  have f2 := BlkAt.frozen hX.k 2
  have c3 := BlkAt.cell hX.k (i := 3) rfl
  have f3 := BlkAt.frozen hX.k 3
  go_upto_region 4 with (fail)
  have hM := ((hX.set n4 2 (.int .i64 a2)).set n4 3 (.int .i64 a3))
  clear hX c2 f2 c3 f3
  simp only [List.set_cons_zero, List.set_cons_succ] at hM
  generalize (World.setCell (World.setCell w5 ⟨w1.heap.size, 2, none⟩ (.int .i64 a2)) ⟨w1.heap.size, 3, none⟩ (.int .i64 a3)) = w6 at *
  go_wp2_with (fail)
  refine (H4.out _ hM.s).mono ?_
  rintro e w7 ⟨rfl, hs1, hg1⟩
  have hX := hM.call n4 hs1 hg1
  clear hM hs1 hg1
  have c4 := BlkAt.cell hX.k (i := 4) rfl
  have f4 := BlkAt.frozen hX.k 4
  have c5 := BlkAt.cell hX.k (i := 5) rfl
  have f5 := BlkAt.frozen hX.k 5
  go_upto_region 5 with (fail)
  have hM := ((hX.set n4 4 (.int .i64 a4)).set n4 5 (.int .i64 a5))
  clear hX c4 f4 c5 f5
  simp only [List.set_cons_zero, List.set_cons_succ] at hM
  generalize (World.setCell (World.setCell w7 ⟨w1.heap.size, 4, none⟩ (.int .i64 a4)) ⟨w1.heap.size, 5, none⟩ (.int .i64 a5)) = w8 at *
  have m0 := hM.v0
  go_wp2_with (fail)
  refine (H6.out _ hM.s).mono ?_
  rintro e w9 ⟨rfl, hs1, hg1⟩
  have hX := hM.call n4 hs1 hg1
  clear hM hs1 hg1 m0
  have c6 := BlkAt.cell hX.k (i := 6) rfl
  have f6 := BlkAt.frozen hX.k 6
  go_upto_region 6 with (fail)
  have hM := (hX.set n4 6 (.string (bs s6)))
  clear hX c6 f6
  simp only [List.set_cons_zero, List.set_cons_succ] at hM
  generalize (World.setCell w9 ⟨w1.heap.size, 6, none⟩ (.string (bs s6))) = w10 at *
  clear H0 H1 H2 H4 H6
  have m0 := hM.v0
  go_wp2_with (fail)
  refine (H7.out _ hM.s).mono ?_
  rintro e w11 ⟨rfl, hs1, hg1⟩
  have hX := hM.call n4 hs1 hg1
  clear hM hs1 hg1 m0 H7
  have c1 := hX.v1
  have f1 := hX.vf
  have hM := hX.setBad n4 (badNum a7)
  generalize hw12 : (World.setCell w11 ⟨v, 1, none⟩ (.bool (badNum a7))) = w12 at *
  have HWW := Lib.hid hw12
  clear hX hw12
  by_cases hbn : badNum a7 = true
  · have HL2 : Hid (([], r8) = (L, r9)) := by have := HL.out; rw [if_pos hbn] at this; exact this
    have HR9 : Hid (r9 = r8) := by have := HL2.out; simp only [Prod.mk.injEq] at this; exact this.2.symm
    obtain rfl : L = [] := by have := HL2.out; simp only [Prod.mk.injEq] at this; exact this.1.symm
    have key : ∀ (X : World) (hS : BlkAt w.heap.size 99 [.int .i64 a0, .int .i64 a1, .int .i64 a2, .int .i64 a3, .int .i64 a4, .int .i64 a5, .string (bs s6), .slice none 0 0] X) (hg : w12.grownBy X (some w.heap.size)), EntsIn X none 0 ([] : List Ent) ∧ (∀ p : Addr, none = some p → w.heap.size ≤ p.block) ∧ Rds VRd PackRd v q (badNum a7) r9 X ∧ Gr2 q v w X :=
      fun X _ hg => ⟨ents_none X, (by intro p hp; cases hp), (by rw [HR9.out]; exact hM.s.kept hg (Ne.symm n4.jv) (Ne.symm n4.jq)), hM.g.own hg n4.j⟩
    have KEY := Lib.hid key
    clear key HL HL2 HR9
    rw [hbn] at HWW hM
    have HB := Lib.hid hbn
    clear hbn
    by_cases hn : a7 < 0
    all_goals
      have tn : decide (0 < a7) = !decide (a7 < 0) := by have := HB.out; unfold badNum at this; simp only [Bool.or_eq_true, decide_eq_true_eq] at this; by_cases h0 : a7 < 0 <;> simp [h0] <;> omega
      have tm : ¬ a7 < 0 → 1000 < a7 := by have := HB.out; unfold badNum at this; simp only [Bool.or_eq_true, decide_eq_true_eq] at this; omega
      first | (have tn1 : a7 < 0 := hn) | (have tn2 : 1000 < a7 := tm hn)
      clear tn tm hn
      go_upto_region 8 with (fail)
      rw [HWW.out]
      have v1 := hM.v1
      go_wp2
      go_loopw [5] (fun vi wr => vi = .int .i64 0 ∧ wr = w12) (fun _ _ => 0)
      case atStart => exact ⟨rfl, rfl⟩
      case round =>
        obtain ⟨rfl, rfl⟩ := hrel
        have y0 := BlkAt.cell hM.k (i := 0) rfl
        have y1 := BlkAt.cell hM.k (i := 1) rfl
        have y2 := BlkAt.cell hM.k (i := 2) rfl
        have y3 := BlkAt.cell hM.k (i := 3) rfl
        have y4 := BlkAt.cell hM.k (i := 4) rfl
        have y5 := BlkAt.cell hM.k (i := 5) rfl
        have y6 := BlkAt.cell hM.k (i := 6) rfl
        have y7 := BlkAt.cell hM.k (i := 7) rfl
        go_wp2_with (refine wpList_store_blk (by rfl) 99 _ _ (by rfl) w.heap.size 99 [.int .i64 0, .int .i64 0, .int .i64 0, .int .i64 0, .int .i64 0, .int .i64 0, .string ⟨#[]⟩, .slice none 0 0] [.int .i64 a0, .int .i64 a1, .int .i64 a2, .int .i64 a3, .int .i64 a4, .int .i64 a5, .string (bs s6), .slice none 0 0] (by rfl) (by rfl) hM.j rfl (by kernel_rfl) (by intro u hu; simp only [List.mem_cons, List.not_mem_nil, or_false] at hu; rcases hu with rfl | rfl | rfl | rfl | rfl | rfl | rfl | rfl <;> rfl) ?_)
        intro w9 hS9 hg9
        have hld9 := run_load_blk (P := Try.prog) hS9 _ Try.underlying99 rfl (by kernel_rfl)
        go_wp2
        exact bodyPost_ret (v := .agg #[.int .i64 a0, .int .i64 a1, .int .i64 a2, .int .i64 a3, .int .i64 a4, .int .i64 a5, .string (bs s6), .slice none 0 0]) (results_cell Try.results78 _ _ _ ⟨w.heap.size, 0, none⟩ _ (by rfl) hld9) rfl ⟨none, 0, rfl, KEY.out w9 hS9 hg9⟩
  · have hbn := Bool.eq_false_iff.2 hbn
    have HL2 : Hid (entsR a7.toNat [] r8 = (L, r9)) := by have := HL.out; rw [hbn] at this; exact this
    rw [hbn] at HWW hM
    have hn0 : 0 ≤ a7 := by unfold badNum at hbn; simp only [Bool.or_eq_false_iff, decide_eq_false_iff_not] at hbn; omega
    have hn1 : a7 ≤ 1000 := by unfold badNum at hbn; simp only [Bool.or_eq_false_iff, decide_eq_false_iff_not] at hbn; omega
    have HB := Lib.hid hbn
    clear hbn HL
    obtain ⟨n, rfl⟩ : ∃ n : Nat, a7 = (n : Int) := ⟨a7.toNat, by omega⟩
    simp only [Int.toNat_natCast] at HL2
    have tn : decide ((n : Int) < 0) = false := decide_eq_false (by omega)
    have tm : decide ((1000 : Int) < (n : Int)) = false := decide_eq_false (by omega)
    go_upto_region 8 with (fail)
    rw [HWW.out]
    clear HWW c1 f1 tn tm
    obtain ⟨N, hN⟩ : ∃ N, N = w12.heap.size := ⟨_, rfl⟩
    have hkN : w1.heap.size < N := by rw [hN]; exact BlkAt.lt hM.k
    have hjN : w.heap.size < N := by rw [hN]; exact BlkAt.lt hM.j
    have hNw : N ≤ w12.heap.size := Nat.le_of_eq hN
    clear hN
    have hwN : w.heap.size ≤ N := Nat.le_of_lt hjN
    have hvN : v < N := Nat.lt_of_lt_of_le hvw hwN
    have hqN : q < N := Nat.lt_of_lt_of_le hqw hwN
    go_wp2
    go_loopw [5] (fun vi wr => ∃ (i : Nat) (D : List Ent) (rr : Rd) (u : Value), vi = .int .i64 (i : Int) ∧ i ≤ n ∧ D.length = i ∧ Mid VRd PackRd 99 v q w1.heap.size w.heap.size false rr [.int .i64 a0, .int .i64 a1, .int .i64 a2, .int .i64 a3, .int .i64 a4, .int .i64 a5, .string (bs s6), u] [.int .i64 0, .int .i64 0, .int .i64 0, .int .i64 0, .int .i64 0, .int .i64 0, .string ⟨#[]⟩, .slice none 0 0] w wr ∧ wr.ownsRow N 69 3 u D.length (entRow D) ∧ (∀ x ∈ D, x.ok) ∧ rr.l.length ≤ 9223372036854775807 ∧ rr.e ≠ 12 ∧ N ≤ wr.heap.size ∧ entsR n [] r8 = entsR (n - i) D rr) (fun vi _ => n - (intOf vi).toNat)
    case atStart => exact ⟨0, [], r8, _, rfl, Nat.zero_le _, rfl, hM, World.ownsRow_nil _ _ _ _, by simp, l8, t8, hNw, rfl⟩
    case round =>
      clear hM hNw t8 l8
      obtain ⟨i, D, rr, u, rfl, hin, hDi, hM, hown, hok, hrl, hr12, hNr, hts⟩ := hrel
      have HTS := Lib.hid hts
      have HD := Lib.hid hDi
      have hD1 : D.length ≤ 1000 := by omega
      clear hts hDi
      have v1 := hM.v1
      have hex : (i < n ∧ rr.e = 0) ∨ ((¬ i < n ∨ (i < n ∧ rr.e ≠ 0)) ∧ Hid ((L, r9) = (D, rr))) := by
        by_cases hlt : i < n
        · by_cases he : rr.e = 0
          · exact .inl ⟨hlt, he⟩
          · exact .inr ⟨.inr ⟨hlt, he⟩, by show _ = _; rw [← HL2.out, HTS.out, entsR_stop _ _ _ he]⟩
        · exact .inr ⟨.inl hlt, by show _ = _; rw [← HL2.out, HTS.out, show n - i = 0 by omega]; rfl⟩
      rcases hex with ⟨hlt, he⟩ | ⟨hno, HX⟩
      · have hWl := Lib.hid (HW8.out rr false hr12 _ hM.s)
        rw [decide_eq_true he] at hWl
        have HG := Lib.hid (entsR_go (n - i - 1) D rr he)
        have HEN := Lib.hid (fun X hX => HE.out rr false hrl X hX)
        have hok2 := entR_fit rr hrl
        have hrl2 := Nat.le_trans (entR_le rr) hrl
        have hr122 := entR_err rr hr12
        have HR : Hid (entsR n [] r8 = entsR (n - (i + 1)) (D ++ [(entR rr).1]) (entR rr).2) := by show _ = _; rw [HTS.out, show n - i = n - i - 1 + 1 by omega, HG.out, show n - i - 1 = n - (i + 1) by omega]
        clear HG HTS HE HW8 HL2 he hrl hr12
        unfold entV at HEN
        generalize (entR rr).1 = x at *
        generalize (entR rr).2 = rr2 at *
        go_wp2_with (fail)
        refine hWl.out.mono ?_
        rintro e wa ⟨rfl, rfl⟩
        clear hWl
        have y7 := BlkAt.cell hM.k (i := 7) rfl
        have g7 := BlkAt.frozen hM.k 7
        have hob := own_base hown
        have huk : some w1.heap.size ≠ u.ownBlock := fun e => by have := hob _ e.symm; omega
        go_wp2_with (fail)
        have hMd := hM.grew ((Below.refl _ wa).drew)
        go_region_law (first | (go_simp; go_at_call 79; (with_reducible refine (HEN.out _ (by first | exact hM.s | exact hM.s.drew)).mono ?_); rintro e w2b ⟨rfl, hs2, hg2⟩; have hown2 := own_gr2 hown.drew hg2 hqN hvN; have hs2' : wa.heap.size ≤ w2b.heap.size := hg2.size; have y7b := hg2.cell y7 n4.kq n4.kv; have y7d := fun o => Grew.cell (alloc_below w2b o) y7b) | (refine step_append_own rfl _ _ 95 (by rfl) N 69 i5 (.agg #[.int .i64 0, .int .i64 0, .string ⟨#[]⟩]) 3 32 Try.underlying95 hi hz0 hz1 hz2 rfl (by decide) _ _ _ (by rfl) (hown2.alloc _) ⟨w2b.heap.size, 0, none⟩ 1 1 (entRow [x]) (by rfl) rfl (new_cells w2b _ 69) (entRow_one _) (by unfold maxLen; omega) (by omega) (by simp; omega) ?_; intro u3 w3 hown3 hgr3 _; obtain ⟨a3, c3, rfl⟩ := own_slice hown3; have hX := ((hMd.call n4 hs2 hg2).grew (alloc_below w2b _)).row n4 hgr3 hob hkN hjN hwN hvN hqN; have y7c := BlkAt.cell hX.k (i := 7) rfl; have g7c := BlkAt.frozen hX.k 7))
        all_goals
          have hM3 := hX.set n4 7 (.slice a3 (D.length + 1) c3)
          simp only [List.set_cons_zero, List.set_cons_succ] at hM3
          have hown4 : (w3.setCell ⟨w1.heap.size, 7, none⟩ (.slice a3 (D.length + 1) c3)).ownsRow N 69 3 (.slice a3 (D.length + 1) c3) (D ++ [x]).length (entRow (D ++ [x])) := by
            have h0 := own_grown hown3 (grown_set w3 w1.heap.size 7 (.slice a3 (D.length + 1) c3)) (fun e => by have := own_base hown3 _ e; omega)
            rw [entRow_append, List.length_append]; exact h0
          have hN4 : N ≤ (w3.setCell ⟨w1.heap.size, 7, none⟩ (.slice a3 (D.length + 1) c3)).heap.size := by
            have h0 := hX.g.size
            have h1 := hgr3.size
            have h2 := (grown_set w3 w1.heap.size 7 (.slice a3 (D.length + 1) c3)).size
            have h3 : w2b.heap.size ≤ (w2b.alloc (.cells (entRow [x]).toArray 69)).heap.size := by simp
            have h4 : (w2b.alloc (.cells (entRow [x]).toArray 69)).heap.size ≤ w3.heap.size := h1
            omega
          have hok4 : ∀ y ∈ D ++ [x], y.ok := by
            intro y hy
            rcases List.mem_append.1 hy with hy | hy
            · exact hok y hy
            · simp only [List.mem_cons, List.not_mem_nil, or_false] at hy
              rw [hy]; exact hok2
          clear hX y7c g7c hown hgr3 hown3 hs2 hg2 hM hMd y7 g7 y7b y7d hown2 v1
          go_wp2
          go_roundw
          case rel => exact ⟨i + 1, D ++ [x], rr2, _, by go_num, by omega, by simp [HD.out], hM3, hown4, hok4, hrl2, hr122, hN4, HR.out⟩
          case measure => simp [intOf]; omega
      · obtain ⟨rfl, rfl⟩ : L = D ∧ r9 = rr := by have := HX.out; simp only [Prod.mk.injEq] at this; exact this
        obtain ⟨_, a, cap, rfl, hE⟩ := own_ents hown hok
        have hob := own_base hown
        have hbl : ∀ p : Addr, a = some p → N ≤ p.block := fun p hp => hob p.block (by rw [hp]; rfl)
        have hWl := Lib.hid (HW8.out r9 false hr12 _ hM.s)
        clear HX HTS HE HW8 HL2 hown hob
        have y0 := BlkAt.cell hM.k (i := 0) rfl
        have y1 := BlkAt.cell hM.k (i := 1) rfl
        have y2 := BlkAt.cell hM.k (i := 2) rfl
        have y3 := BlkAt.cell hM.k (i := 3) rfl
        have y4 := BlkAt.cell hM.k (i := 4) rfl
        have y5 := BlkAt.cell hM.k (i := 5) rfl
        have y6 := BlkAt.cell hM.k (i := 6) rfl
        have y7 := BlkAt.cell hM.k (i := 7) rfl
        have HF : Hid (∀ w9, wr.grownBy w9 (some w.heap.size) → EntsIn w9 a cap L ∧ (∀ p, a = some p → w.heap.size ≤ p.block) ∧ Rds VRd PackRd v q (badNum (n : Int)) r9 w9 ∧ Gr2 q v w w9) := fun w9 hg9 =>
          ⟨ents_kept hE hg9 (fun p hp e => by have := hbl p hp; omega), fun p hp => Nat.le_trans hwN (hbl p hp), by rw [HB.out]; exact hM.s.kept hg9 (Ne.symm n4.jv) (Ne.symm n4.jq), hM.g.own hg9 n4.j⟩
        rcases hno with hlt | ⟨hlt, he⟩
        · clear hWl
          go_wp2_with (refine wpList_store_blk (by rfl) 99 _ _ (by rfl) w.heap.size 99 [.int .i64 0, .int .i64 0, .int .i64 0, .int .i64 0, .int .i64 0, .int .i64 0, .string ⟨#[]⟩, .slice none 0 0] [.int .i64 a0, .int .i64 a1, .int .i64 a2, .int .i64 a3, .int .i64 a4, .int .i64 a5, .string (bs s6), .slice a L.length cap] (by rfl) (by rfl) hM.j rfl (by kernel_rfl) (by intro u hu; simp only [List.mem_cons, List.not_mem_nil, or_false] at hu; rcases hu with rfl | rfl | rfl | rfl | rfl | rfl | rfl | rfl <;> rfl) ?_)
          intro w9 hS9 hg9
          have hld9 := run_load_blk (P := Try.prog) hS9 _ Try.underlying99 rfl (by kernel_rfl)
          go_wp2
          exact bodyPost_ret (v := .agg #[.int .i64 a0, .int .i64 a1, .int .i64 a2, .int .i64 a3, .int .i64 a4, .int .i64 a5, .string (bs s6), .slice a L.length cap]) (results_cell Try.results78 _ _ _ ⟨w.heap.size, 0, none⟩ _ (by rfl) hld9) rfl ⟨a, cap, rfl, HF.out w9 hg9⟩
        · rw [decide_eq_false he] at hWl
          go_wp2_with (fail)
          refine hWl.out.mono ?_
          rintro e wa ⟨rfl, rfl⟩
          clear hWl he
          go_wp2_with (refine wpList_store_blk (by rfl) 99 _ _ (by rfl) w.heap.size 99 [.int .i64 0, .int .i64 0, .int .i64 0, .int .i64 0, .int .i64 0, .int .i64 0, .string ⟨#[]⟩, .slice none 0 0] [.int .i64 a0, .int .i64 a1, .int .i64 a2, .int .i64 a3, .int .i64 a4, .int .i64 a5, .string (bs s6), .slice a L.length cap] (by rfl) (by rfl) hM.j rfl (by kernel_rfl) (by intro u hu; simp only [List.mem_cons, List.not_mem_nil, or_false] at hu; rcases hu with rfl | rfl | rfl | rfl | rfl | rfl | rfl | rfl <;> rfl) ?_)
          intro w9 hS9 hg9
          have hld9 := run_load_blk (P := Try.prog) hS9 _ Try.underlying99 rfl (by kernel_rfl)
          go_wp2
          exact bodyPost_ret (v := .agg #[.int .i64 a0, .int .i64 a1, .int .i64 a2, .int .i64 a3, .int .i64 a4, .int .i64 a5, .string (bs s6), .slice a L.length cap]) (results_cell Try.results78 _ _ _ ⟨w.heap.size, 0, none⟩ _ (by rfl) hld9) rfl ⟨a, cap, rfl, HF.out w9 hg9⟩
end Go.Proofs.Ytlbacddgjagcbaa
