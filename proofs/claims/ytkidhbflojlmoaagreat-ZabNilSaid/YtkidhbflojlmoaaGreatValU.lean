/- The walk of Of. Conditions: as each theorem says. -/
import Derived.Test.YtkidhbflojlmoaaGreatZabNa
import Derived.Deep.RegionHeld3
namespace Go.Proofs.YtkidhbflojlmoaaGreat
open Go.RowKit

/-- A message, as the program has it. -/
inductive Mv where
  | vote (l : Int) (z : Int × Int) (p r s : Int)
  | info (k p o : Int) (z : Int × Int)
  | sync (k p : Int) (f z : Int × Int) (b : List UInt8) (L : List Ent)
  | prop (x : Ent)
  | ack (f : Bool) (z : Int × Int)
  | ask (n c q : Int) (f : Bool) (b : List UInt8)
  | none
def syncV (k p : Int) (f z : Int × Int) (b : List UInt8) (s : Value) : Value := .agg #[.int .i64 k, .int .i64 p, .int .i64 f.1, .int .i64 f.2, .int .i64 z.1, .int .i64 z.2, .string (bs b), s]
/-- The value is that message. -/
def MvAt (w : World) : Mv → Value → Prop
  | .vote l z p r s, v => v = .iface 91 (voteV l z p r s)
  | .info k p o z, v => v = .iface 95 (infoV k p o z)
  | .sync k p f z b L, v => ∃ a cap, v = .iface 105 (syncV k p f z b (.slice a L.length cap)) ∧ EntsIn w a cap L
  | .prop x, v => v = .iface 89 (entV x)
  | .ack f z, v => v = .iface 107 (ackV f z)
  | .ask n c q f b, v => v = .iface 109 (askV n c q f b)
  | .none, v => v = .nilIface
theorem MvAt.grew {w w' : World} {x : Mv} {v : Value} (h : MvAt w x v) (hb : Below w.heap.size w w') : MvAt w' x v := by
  cases x <;> simp only [MvAt] at * <;> first | exact h | skip
  obtain ⟨a, cap, hv, hE⟩ := h
  exact ⟨a, cap, hv, hE.grew hb⟩
def ofM (m : Msg) : Mv :=
  if m.ty = 1 then .vote m.ld m.a m.ep m.rnd m.st
  else if m.ty = 2 then .info m.kd m.ep m.own m.a
  else if m.ty = 3 then .sync m.kd m.ep m.f m.a m.body m.ents
  else if m.ty = 4 then (match m.ents with | [x] => .prop x | _ => .none)
  else if m.ty = 5 then .ack m.flag m.a
  else if m.ty = 6 then .ask m.node m.cli m.seq m.flag m.body
  else .none
def OfSaid (m : Msg) (w : World) (e : Ending) (w' : World) : Prop := ∃ v, e = .returned v ∧ MvAt w' (ofM m) v ∧ Below w.heap.size w w'
theorem ofSaid (m : Msg) (w : World) (e : Ending) (w' : World) (x : Mv) (v : Value) (hx : ofM m = x) (he : e = .returned v) (h : MvAt w' x v) (hb : Below w.heap.size w w') : OfSaid m w e w' := ⟨v, he, by rw [hx]; exact h, hb⟩
set_option maxRecDepth 100000 in
set_option maxHeartbeats 16000000 in
theorem of_any (m : Msg) (a : Option Addr) (cap : Nat) (w : World) (hE : EntsIn w a cap m.ents) (_hm : m.ok) (hf : fewM m = true) : Calls Tryz.prog 18 #[msgV m a cap] w fun e w' => OfSaid m w e w' := by
  obtain ⟨i5, hi, hz0, hz1, hz2⟩ := info_parts infoEnt
  have hn : m.ents.length ≤ 1100 := by
    unfold fewM at hf
    rw [Bool.and_eq_true] at hf
    have := of_decide_eq_true hf.1
    omega
  clear hf
  have hlc := hE.1
  have HM := Lib.hid (rfl : ofM m = ofM m)
  obtain ⟨ty, ld, ⟨z1, z2⟩, ep, own, ⟨f1, f2⟩, rnd, st, kd, body, ents, flag, node, cli, seq⟩ := m
  simp only at hE hlc hn
  unfold msgV msgCells
  simp only
  obtain ⟨W0, hW0⟩ : ∃ x, x = w.alloc (.cells #[.int .i64 ty, .int .i64 ld, .int .i64 z1, .int .i64 z2, .int .i64 ep, .int .i64 own, .int .i64 f1, .int .i64 f2, .int .i64 rnd, .int .i64 st, .int .i64 kd, .string (bs body), .slice a ents.length cap, .bool flag, .int .i64 node, .int .i64 cli, .int .i64 seq] 54) := ⟨_, rfl⟩
  have hk := heap_alloc_new w (.cells #[.int .i64 ty, .int .i64 ld, .int .i64 z1, .int .i64 z2, .int .i64 ep, .int .i64 own, .int .i64 f1, .int .i64 f2, .int .i64 rnd, .int .i64 st, .int .i64 kd, .string (bs body), .slice a ents.length cap, .bool flag, .int .i64 node, .int .i64 cli, .int .i64 seq] 54)
  have hB0 := alloc_below w (.cells #[.int .i64 ty, .int .i64 ld, .int .i64 z1, .int .i64 z2, .int .i64 ep, .int .i64 own, .int .i64 f1, .int .i64 f2, .int .i64 rnd, .int .i64 st, .int .i64 kd, .string (bs body), .slice a ents.length cap, .bool flag, .int .i64 node, .int .i64 cli, .int .i64 seq] 54)
  rw [← hW0] at hk hB0
  obtain ⟨W, hW⟩ : ∃ x, x = W0.alloc (.cells #[.int .i64 z1, .int .i64 z2] 41) := ⟨_, rfl⟩
  have hk2 := heap_alloc_new W0 (.cells #[.int .i64 z1, .int .i64 z2] 41)
  have hB1 := alloc_below W0 (.cells #[.int .i64 z1, .int .i64 z2] 41)
  rw [← hW] at hk2 hB1
  have hk := Grew.at_ hB1 hk
  have hB := hB0.trans (hB1.mono hB0.size)
  have hE := hE.grew hB
  have HW0 := Lib.hid hW0
  have HW := Lib.hid hW
  have hg1 : W0.heap.size = w.heap.size + 1 := by rw [hW0]; simp
  rw [hg1] at hk2
  clear hW0 hW hB0 hB1 hg1
  have HK := Lib.hid hk
  have HK2 := Lib.hid hk2
  clear hk hk2
  go_enter Tryz.func18, Tryz.ntmps18
  go_upto_region 2 with (fail)
  rw [← HW0.out, ← HW.out]
  clear HW0 HW
  generalize w.heap.size + 1 = h at *
  generalize hg : w.heap.size = g at *
  have HG := Lib.hid hg
  clear hg
  go_wp2
  go_loopw [4, 5] (fun v vi wr => ∃ (i : Nat), vi = .int .i64 (i : Int) ∧ i ≤ ents.length ∧ wr.ownsRow W.heap.size 72 3 v i (entRow (ents.take i)) ∧ Below W.heap.size W wr) (fun _ vi _ => ents.length - (intOf vi).toNat)
  case atStart => exact ⟨0, rfl, by omega, World.ownsRow_nil _ _ _ _, Below.refl _ _⟩
  case round =>
    obtain ⟨i, rfl, hi1, hown, hb⟩ := hrel
    have HKr := Lib.hid (Grew.at_ hb HK.out)
    have m12 : wr.cell? ⟨g, 12, none⟩ = some (.slice a ents.length cap) := by rw [Lib.cell_of_heap HKr.out]; rfl
    by_cases hp : i < ents.length
    · as_aux_lemma =>
      have hob := own_base hown
      obtain ⟨bb, off, rfl, e0, e1, e2⟩ := ents_get hE.2.2.1 i hp
      have hbb := block_lt_of_cell e0
      have hgg : g < W.heap.size := (Array.getElem?_eq_some_iff.1 HK.out).1
      have hne : some bb ≠ u4.ownBlock := fun h => by have := hob bb h.symm; simp only at hbb; omega
      have hneg : some g ≠ u4.ownBlock := fun h => by have := hob g h.symm; omega
      have e0 := Grew.cell hb e0
      have e1 := Grew.cell hb e1
      have e2 := Grew.cell hb e2
      have htk := Lib.hid (take_ent ents i hp)
      generalize ents[i] = x at *
      have hsz := hb.size
      clear HK HK2 HM HKr
      go_wp2_with (fail)
      go_region_held3 (fun w' => w'.cell? ⟨g, 12, none⟩ = some (.slice (some ⟨bb, off, none⟩) ents.length cap) ∧ w'.cell? ⟨bb, off + i * 3, none⟩ = some (.int .i64 x.e) ∧ w'.cell? ⟨bb, off + i * 3 + 1, none⟩ = some (.int .i64 x.c) ∧ w'.cell? ⟨bb, off + i * 3 + 2, none⟩ = some (.string (bs x.b))) (first | go_keep | exact ⟨hgr3.cell (Grew.cell ((Below.refl _ wr).alloc (Nat.le_refl _) _) m12) hneg, hgr3.cell (Grew.cell ((Below.refl _ wr).alloc (Nat.le_refl _) _) e0) hne, hgr3.cell (Grew.cell ((Below.refl _ wr).alloc (Nat.le_refl _) _) e1) hne, hgr3.cell (Grew.cell ((Below.refl _ wr).alloc (Nat.le_refl _) _) e2) hne⟩) (first | (refine step_append_own rfl _ _ 27 (by rfl) W.heap.size 72 i5 (.agg #[.int .i64 0, .int .i64 0, .string ⟨#[]⟩]) 3 32 Tryz.underlying27 hi hz0 hz1 hz2 rfl (by decide) _ _ _ (by rfl) (hown.drew.alloc _) ⟨wr.heap.size, 0, none⟩ 1 1 (entRow [x]) (by rfl) rfl (new_cells wr.drew _ 72) (entRow_one _) (by unfold maxLen; omega) (by omega) (by have := hb.size; simp [heap_drew]; omega) ?_; intro v3 w3 hown3 hgr3 _))
      all_goals
        have hB3 := (hb.drew.alloc (by have := hb.size; simp [heap_drew]; omega) (.cells (entRow [x]).toArray 72)).grown hgr3 (by have := hb.size; simp [heap_drew]; omega) hob
        rw [← htk.out] at hown3
        clear hgr3 hown e0 e1 e2
        go_wp2
        go_roundw
        case rel => exact ⟨i + 1, by go_num, by omega, hown3, hB3⟩
        case measure => simp [intOf]; omega
    · have hie : i = ents.length := by omega
      subst hie
      rw [List.take_length] at hown
      have hown' := hown
      obtain ⟨_, a2, cap2, rfl, hE2⟩ := own_ents hown hE.2.2.2
      have HKz := Lib.hid (Grew.at_ hb HK2.out)
      have n0 : wr.cell? ⟨h, 0, none⟩ = some (.int .i64 z1) := by rw [Lib.cell_of_heap HKz.out]; rfl
      have n1 : wr.cell? ⟨h, 1, none⟩ = some (.int .i64 z2) := by rw [Lib.cell_of_heap HKz.out]; rfl
      have m0 : wr.cell? ⟨g, 0, none⟩ = some (.int .i64 ty) := by rw [Lib.cell_of_heap HKr.out]; rfl
      have m1 : wr.cell? ⟨g, 1, none⟩ = some (.int .i64 ld) := by rw [Lib.cell_of_heap HKr.out]; rfl
      have m2 : wr.cell? ⟨g, 2, none⟩ = some (.int .i64 z1) := by rw [Lib.cell_of_heap HKr.out]; rfl
      have m3 : wr.cell? ⟨g, 3, none⟩ = some (.int .i64 z2) := by rw [Lib.cell_of_heap HKr.out]; rfl
      have m4 : wr.cell? ⟨g, 4, none⟩ = some (.int .i64 ep) := by rw [Lib.cell_of_heap HKr.out]; rfl
      have m5 : wr.cell? ⟨g, 5, none⟩ = some (.int .i64 own) := by rw [Lib.cell_of_heap HKr.out]; rfl
      have m6 : wr.cell? ⟨g, 6, none⟩ = some (.int .i64 f1) := by rw [Lib.cell_of_heap HKr.out]; rfl
      have m7 : wr.cell? ⟨g, 7, none⟩ = some (.int .i64 f2) := by rw [Lib.cell_of_heap HKr.out]; rfl
      have m8 : wr.cell? ⟨g, 8, none⟩ = some (.int .i64 rnd) := by rw [Lib.cell_of_heap HKr.out]; rfl
      have m9 : wr.cell? ⟨g, 9, none⟩ = some (.int .i64 st) := by rw [Lib.cell_of_heap HKr.out]; rfl
      have m10 : wr.cell? ⟨g, 10, none⟩ = some (.int .i64 kd) := by rw [Lib.cell_of_heap HKr.out]; rfl
      have m11 : wr.cell? ⟨g, 11, none⟩ = some (.string (bs body)) := by rw [Lib.cell_of_heap HKr.out]; rfl
      have m13 : wr.cell? ⟨g, 13, none⟩ = some (.bool flag) := by rw [Lib.cell_of_heap HKr.out]; rfl
      have m14 : wr.cell? ⟨g, 14, none⟩ = some (.int .i64 node) := by rw [Lib.cell_of_heap HKr.out]; rfl
      have m15 : wr.cell? ⟨g, 15, none⟩ = some (.int .i64 cli) := by rw [Lib.cell_of_heap HKr.out]; rfl
      have m16 : wr.cell? ⟨g, 16, none⟩ = some (.int .i64 seq) := by rw [Lib.cell_of_heap HKr.out]; rfl
      have hBr : Below w.heap.size w wr := by rw [HG.out]; exact hB.trans (hb.mono (by have h1 := hB.size; rw [HG.out] at h1; exact h1))
      clear hown HKz HKr HK HK2 hb hown' hE
      by_cases h1 : ty = 1
      · have HV : Hid (ofM ⟨ty, ld, (z1, z2), ep, own, (f1, f2), rnd, st, kd, body, ents, flag, node, cli, seq⟩ = .vote ld (z1, z2) ep rnd st) := by show _ = _; unfold ofM; simp [h1]
        subst h1
        clear HM HG hB m2 m3 m5 m6 m7 m10 m11 m13 m14 m15 m16
        go_wp2
        exact bodyPost_ret (v := .iface 91 (.agg #[.int .i64 ld, .int .i64 z1, .int .i64 z2, .int .i64 ep, .int .i64 rnd, .int .i64 st])) (by simp [results, Tryz.results18, go_sem]) rfl (ofSaid _ _ _ _ _ _ HV.out rfl rfl hBr)
      have t1 : (ty == 1) = false := beq_eq_false_iff_ne.2 h1
      by_cases h2 : ty = 2
      · have HV : Hid (ofM ⟨ty, ld, (z1, z2), ep, own, (f1, f2), rnd, st, kd, body, ents, flag, node, cli, seq⟩ = .info kd ep own (z1, z2)) := by show _ = _; unfold ofM; simp [h2]
        subst h2
        clear HM HG hB m1 m2 m3 m6 m7 m8 m9 m11 m13 m14 m15 m16
        go_wp2
        exact bodyPost_ret (v := .iface 95 (.agg #[.int .i64 kd, .int .i64 ep, .int .i64 own, .int .i64 z1, .int .i64 z2])) (by simp [results, Tryz.results18, go_sem]) rfl (ofSaid _ _ _ _ _ _ HV.out rfl rfl hBr)
      have t2 : (ty == 2) = false := beq_eq_false_iff_ne.2 h2
      by_cases h3 : ty = 3
      · have HV : Hid (ofM ⟨ty, ld, (z1, z2), ep, own, (f1, f2), rnd, st, kd, body, ents, flag, node, cli, seq⟩ = .sync kd ep (f1, f2) (z1, z2) body ents) := by show _ = _; unfold ofM; simp [h3]
        subst h3
        clear HM HG hB m1 m2 m3 m5 m8 m9 m13 m14 m15 m16
        go_wp2
        exact bodyPost_ret (v := .iface 105 (.agg #[.int .i64 kd, .int .i64 ep, .int .i64 f1, .int .i64 f2, .int .i64 z1, .int .i64 z2, .string (bs body), .slice a2 ents.length cap2])) (by simp [results, Tryz.results18, go_sem]) rfl (ofSaid _ _ _ _ _ _ HV.out rfl ⟨a2, cap2, rfl, hE2⟩ hBr)
      have t3 : (ty == 3) = false := beq_eq_false_iff_ne.2 h3
      by_cases h4 : ty = 4
      · by_cases hl1 : ents.length = 1
        · obtain ⟨x, rfl⟩ : ∃ x, ents = [x] := by
            match ents, hl1 with
            | [x], _ => exact ⟨x, rfl⟩
          have HV : Hid (ofM ⟨ty, ld, (z1, z2), ep, own, (f1, f2), rnd, st, kd, body, [x], flag, node, cli, seq⟩ = .prop x) := by show _ = _; unfold ofM; simp [h4]
          subst h4
          obtain ⟨bb, off, rfl, e0, e1, e2⟩ := ents_get hE2.2.2.1 0 (by simp)
          simp only [Nat.zero_mul, Nat.add_zero, List.getElem_cons_zero] at e0 e1 e2
          have hl := hE2.1
          simp only [List.length_cons, List.length_nil, Nat.zero_add] at hl hlc m12 ⊢
          clear HM HG hB hl1 m1 m2 m3 m4 m5 m6 m7 m8 m9 m10 m11 m13 m14 m15 m16
          go_wp2
          exact bodyPost_ret (v := .iface 89 (.agg #[.int .i64 x.e, .int .i64 x.c, .string (bs x.b)])) (by simp [results, Tryz.results18, go_sem]) rfl (ofSaid _ _ _ _ _ _ HV.out rfl rfl hBr)
        · have HV : Hid (ofM ⟨ty, ld, (z1, z2), ep, own, (f1, f2), rnd, st, kd, body, ents, flag, node, cli, seq⟩ = .none) := by
            show _ = _
            unfold ofM
            rw [if_neg h1, if_neg h2, if_neg h3, if_pos h4]
            match ents, hl1 with
            | [], _ => rfl
            | [x], h => exact absurd rfl h
            | _ :: _ :: _, _ => rfl
          subst h4
          have t4 : ((ents.length : Int) == 1) = false := beq_eq_false_iff_ne.2 (by omega)
          clear HM HG hB m1 m2 m3 m4 m5 m6 m7 m8 m9 m10 m11 m13 m14 m15 m16
          go_wp2
          exact bodyPost_ret (v := .nilIface) (by simp [results, Tryz.results18, go_sem]) rfl (ofSaid _ _ _ _ _ _ HV.out rfl rfl hBr)
      have t4 : (ty == 4) = false := beq_eq_false_iff_ne.2 h4
      by_cases h5 : ty = 5
      · have HV : Hid (ofM ⟨ty, ld, (z1, z2), ep, own, (f1, f2), rnd, st, kd, body, ents, flag, node, cli, seq⟩ = .ack flag (z1, z2)) := by show _ = _; unfold ofM; simp [h5]
        subst h5
        clear HM HG hB m1 m2 m3 m4 m5 m6 m7 m8 m9 m10 m11 m14 m15 m16
        go_wp2
        exact bodyPost_ret (v := .iface 107 (.agg #[.bool flag, .int .i64 z1, .int .i64 z2])) (by simp [results, Tryz.results18, go_sem]) rfl (ofSaid _ _ _ _ _ _ HV.out rfl rfl hBr)
      have t5 : (ty == 5) = false := beq_eq_false_iff_ne.2 h5
      by_cases h6 : ty = 6
      · have HV : Hid (ofM ⟨ty, ld, (z1, z2), ep, own, (f1, f2), rnd, st, kd, body, ents, flag, node, cli, seq⟩ = .ask node cli seq flag body) := by show _ = _; unfold ofM; simp [h6]
        subst h6
        clear HM HG hB m1 m2 m3 m4 m5 m6 m7 m8 m9 m10
        go_wp2
        exact bodyPost_ret (v := .iface 109 (.agg #[.int .i64 node, .int .i64 cli, .int .i64 seq, .bool flag, .string (bs body)])) (by simp [results, Tryz.results18, go_sem]) rfl (ofSaid _ _ _ _ _ _ HV.out rfl rfl hBr)
      have t6 : (ty == 6) = false := beq_eq_false_iff_ne.2 h6
      have HV : Hid (ofM ⟨ty, ld, (z1, z2), ep, own, (f1, f2), rnd, st, kd, body, ents, flag, node, cli, seq⟩ = .none) := by show _ = _; unfold ofM; simp [h1, h2, h3, h4, h5, h6]
      clear HM
      go_wp2
      exact bodyPost_ret (v := .nilIface) (by simp [results, Tryz.results18, go_sem]) rfl (ofSaid _ _ _ _ _ _ HV.out rfl rfl hBr)
end Go.Proofs.YtkidhbflojlmoaaGreat
