/- The walks of the program's reader of messages: its parts. Conditions: as each theorem says. -/
import Derived.Test.YtlbacddgjagcbaaValV
import Derived.Test.YtlbacddgjagcbaaPackBack
namespace Go.Proofs.Ytlbacddgjagcbaa
open Go.RowKit

abbrev PackRd : TypeId := 91
/-- The reader at block v: over the pack's reader at block q, and whether a number was not right. -/
def VAt (v q : Nat) (bad : Bool) (w : World) : Prop := BlkAt v 113 [.pointer (some ⟨q, 0, none⟩), .bool bad] w
theorem VAt.grown {v q : Nat} {bad : Bool} {w w' : World} (h : VAt v q bad w) (hg : w.grownBy w' (some q)) (hne : v ≠ q) : VAt v q bad w' := BlkAt.grown h hg (fun e => hne (Option.some.inj e))
theorem grownTrans {a w w' : World} {row : Option Nat} (h : a.grownBy w row) (k : w.grownBy w' row) : a.grownBy w' row := grown_trans h k
theorem grownAlloc (w : World) (o : Obj) (row : Option Nat) : w.grownBy (w.alloc o) row := grown_below (alloc_below w o) row
theorem grown_new {w a b : World} {q k : Nat} (h : w.grownBy a (some q)) (g : a.grownBy b (some k)) (hk : w.heap.size ≤ k) : w.grownBy b (some q) :=
  ⟨g.os.trans h.os, g.tape.trans h.tape, g.output.trans h.output, Nat.le_trans h.size g.size, fun j hj hne => by rw [g.block j (Nat.lt_of_lt_of_le hj h.size) (fun e => by have := Option.some.inj e; omega), h.block j hj hne]⟩
def ZxSaid (v q : Nat) (bad : Bool) (a b : Int) (r2 : Rd) (w : World) (e : Ending) (w' : World) : Prop := e = .returned (.agg #[.int .i64 a, .int .i64 b]) ∧ VAt v q bad w' ∧ RdAt PackRd q r2 w' ∧ w.grownBy w' (some q)
set_option maxRecDepth 100000 in
set_option maxHeartbeats 4000000 in
theorem rdZxid_any (v q : Nat) (hvq : v ≠ q) (bad : Bool) (r r1 r2 : Rd) (a b : Int) (w : World) (hv : VAt v q bad w) (hr : RdAt PackRd q r w) (hl : r.l.length ≤ 9223372036854775807) (h1 : numR r = (a, r1)) (h2 : numR r1 = (b, r2)) :
    Calls Try.prog 87 #[.pointer (some ⟨v, 0, none⟩)] w fun e w' => ZxSaid v q bad a b r2 w e w' := by
  have hl1 : r1.l.length ≤ 9223372036854775807 := by have := numR_len r; rw [h1] at this; simp only at this; omega
  have HA := Lib.hid (fun X hX => numRead_at q r X hX hl h1)
  have HB := Lib.hid (fun X hX => numRead_at q r1 X hX hl1 h2)
  have hne : w.heap.size ≠ q := fun e => by have := hr.lt; omega
  have hnv : w.heap.size ≠ v := fun e => by have := BlkAt.lt hv; omega
  obtain ⟨W, hW⟩ : ∃ X, X = w.alloc (.cells #[.int .i64 0, .int .i64 0] 59) := ⟨_, rfl⟩
  have hk : BlkAt w.heap.size 59 [.int .i64 0, .int .i64 0] W := by rw [hW]; exact BlkAt.alloc_new w _ _
  have hg0 : w.grownBy W (some q) := by rw [hW]; exact grownAlloc w _ _
  have hvW : VAt v q bad W := hv.grown hg0 hvq
  have hrW : RdAt PackRd q r W := by rw [hW]; exact Grew.at_ (alloc_below w _) hr
  have HW := Lib.hid hW
  have HG0 := Lib.hid hg0
  clear hW hv hr h1 h2 hg0 hl hl1
  go_enter Try.func87, Try.ntmps87
  go_upto_region 1 with (fail)
  rw [← HW.out]
  clear HW
  have HG0' : w.grownBy W (some q) := HG0.out
  generalize hkk : w.heap.size = k at *
  have HKK := Lib.hid hkk
  clear hkk
  have m0 : W.cell? ⟨v, 0, none⟩ = some (.pointer (some ⟨q, 0, none⟩)) := BlkAt.cell hvW rfl
  go_wp2_with (fail)
  refine (HA.out _ hrW).mono ?_
  rintro e w1 ⟨rfl, hr1, hg1⟩
  have hv1 := VAt.grown hvW hg1 hvq
  have hk1 := BlkAt.grown hk hg1 (fun e => hne (Option.some.inj e))
  clear m0
  have m0 : w1.cell? ⟨v, 0, none⟩ = some (.pointer (some ⟨q, 0, none⟩)) := BlkAt.cell hv1 rfl
  go_wp2_with (fail)
  refine (HB.out _ hr1).mono ?_
  rintro e w2 ⟨rfl, hr2, hg2⟩
  have hv2 := VAt.grown hv1 hg2 hvq
  have hk2 := BlkAt.grown hk1 hg2 (fun e => hne (Option.some.inj e))
  clear m0
  go_wp2_with (refine wpList_store_blk (by rfl) 59 _ _ (by rfl) k 59 [.int .i64 0, .int .i64 0] [.int .i64 a, .int .i64 b] (by rfl) (by rfl) hk2 rfl (by kernel_rfl) (by intro u hu; simp only [List.mem_cons, List.not_mem_nil, or_false] at hu; rcases hu with rfl | rfl <;> rfl) ?_)
  intro w3 hS3 hg3
  have hld := run_load_blk (P := Try.prog) hS3 _ Try.underlying59 rfl (by kernel_rfl)
  go_wp2
  exact bodyPost_ret (v := .agg #[.int .i64 a, .int .i64 b]) (results_cell Try.results87 _ _ _ ⟨k, 0, none⟩ _ (by rfl) hld) rfl ⟨rfl, BlkAt.grown hv2 hg3 (fun e => hnv (Option.some.inj e).symm), by unfold RdAt; exact (hg3.block q (by exact (RdAt.lt hr2)) (fun e => hne (Option.some.inj e).symm)).trans hr2, grown_new (grownTrans (grownTrans HG0.out hg1) hg2) hg3 (Nat.le_of_eq HKK.out)⟩
theorem cell_set3 {w : World} {k b o : Nat} {x0 x1 x2 u : Value} (hne : b ≠ k) (h : w.cell? ⟨b, o, none⟩ = some u) : (((w.setCell ⟨k, 0, none⟩ x0).setCell ⟨k, 1, none⟩ x1).setCell ⟨k, 2, none⟩ x2).cell? ⟨b, o, none⟩ = some u := by
  rw [← h]
  exact World.cell?_of_block (by rw [Below.heap_setCell _ _ _ _ hne, Below.heap_setCell _ _ _ _ hne, Below.heap_setCell _ _ _ _ hne])
theorem rd_drew {q : Nat} {r : Rd} {w : World} (h : RdAt PackRd q r w) : RdAt PackRd q r w.drew := h
theorem rd_grew {q : Nat} {r : Rd} {w w' : World} (h : RdAt PackRd q r w) (hb : Below w.heap.size w w') : RdAt PackRd q r w' := Grew.at_ hb h
def EntSaid (v q : Nat) (bad : Bool) (x : Ent) (r2 : Rd) (w : World) (e : Ending) (w' : World) : Prop := e = .returned (entV x) ∧ VAt v q bad w' ∧ RdAt PackRd q r2 w' ∧ w.grownBy w' (some q)
set_option maxRecDepth 100000 in
set_option maxHeartbeats 4000000 in
theorem rdEntry_any (v q : Nat) (hvq : v ≠ q) (bad : Bool) (r r1 r2 r3 : Rd) (a b : Int) (s : List UInt8) (w : World) (hv : VAt v q bad w) (hr : RdAt PackRd q r w) (hl : r.l.length ≤ 9223372036854775807) (h1 : numR r = (a, r1)) (h2 : numR r1 = (b, r2)) (h3 : textR r2 = (s, r3)) :
    Calls Try.prog 79 #[.pointer (some ⟨v, 0, none⟩)] w fun e w' => EntSaid v q bad ⟨a, b, s⟩ r3 w e w' := by
  have hl1 : r1.l.length ≤ 9223372036854775807 := by have := numR_len r; rw [h1] at this; simp only at this; omega
  have hl2 : r2.l.length ≤ 9223372036854775807 := by have := numR_len r1; rw [h2] at this; simp only at this; omega
  have HZ := Lib.hid (fun X hV hR => rdZxid_any v q hvq bad r r1 r2 a b X hV hR hl h1 h2)
  unfold ZxSaid at HZ
  have HT := Lib.hid (fun X hX => textRead_at q r2 X hX hl2 h3)
  have hne : w.heap.size ≠ q := fun e => by have := hr.lt; omega
  have hnv : w.heap.size ≠ v := fun e => by have := BlkAt.lt hv; omega
  obtain ⟨W, hW⟩ : ∃ X, X = w.alloc (.cells #[.int .i64 0, .int .i64 0, .string ⟨#[]⟩] 69) := ⟨_, rfl⟩
  have hk : BlkAt w.heap.size 69 [.int .i64 0, .int .i64 0, .string ⟨#[]⟩] W := by rw [hW]; exact BlkAt.alloc_new w _ _
  have hg0 : w.grownBy W (some q) := by rw [hW]; exact grownAlloc w _ _
  have hvW : VAt v q bad W := hv.grown hg0 hvq
  have hrW : RdAt PackRd q r W := by rw [hW]; exact Grew.at_ (alloc_below w _) hr
  have HW := Lib.hid hW
  have HG0 := Lib.hid hg0
  clear hW hv hr h1 h2 h3 hg0 hl hl1 hl2
  go_enter Try.func79, Try.ntmps79
  go_upto_region 1 with (fail)
  rw [← HW.out]
  clear HW
  have HG0' : w.grownBy W (some q) := HG0.out
  generalize hkk : w.heap.size = k at *
  have HKK := Lib.hid hkk
  clear hkk
  go_wp2_with (fail)
  refine (HZ.out _ hvW hrW).mono ?_
  rintro e w1 ⟨rfl, hv1, hr1, hg1⟩
  have hk1 := BlkAt.grown hk hg1 (fun e => hne (Option.some.inj e))
  obtain ⟨W2, hW2⟩ : ∃ X, X = w1.alloc (.cells #[.int .i64 a, .int .i64 b] 59) := ⟨_, rfl⟩
  have hz2 : BlkAt w1.heap.size 59 [.int .i64 a, .int .i64 b] W2 := by rw [hW2]; exact BlkAt.alloc_new w1 _ _
  have hb2 : Below w1.heap.size w1 W2 := by rw [hW2]; exact alloc_below w1 _
  have hv2 : VAt v q bad W2 := BlkAt.grew hv1 hb2
  have hr2 := rd_grew hr1 hb2
  have hk2 := BlkAt.grew hk1 hb2
  have hg2 : w1.grownBy W2 (some q) := grown_below hb2 _
  have hnz : w1.heap.size ≠ q := fun e => by have := RdAt.lt hr1; omega
  have hjk : w1.heap.size ≠ k := fun e => by have := BlkAt.lt hk1; omega
  have HW2 := Lib.hid hW2
  clear hW2
  go_upto_region 2 with (fail)
  rw [← HW2.out]
  clear HW2
  generalize w1.heap.size = j at *
  have m0 : W2.cell? ⟨v, 0, none⟩ = some (.pointer (some ⟨q, 0, none⟩)) := BlkAt.cell hv2 rfl
  have z0 : W2.cell? ⟨j, 0, none⟩ = some (.int .i64 a) := BlkAt.cell hz2 rfl
  have z1 : W2.cell? ⟨j, 1, none⟩ = some (.int .i64 b) := BlkAt.cell hz2 rfl
  have k0 : W2.cell? ⟨k, 0, none⟩ = some (.int .i64 0) := BlkAt.cell hk2 rfl
  have k1 : W2.cell? ⟨k, 1, none⟩ = some (.int .i64 0) := BlkAt.cell hk2 rfl
  have k2 : W2.cell? ⟨k, 2, none⟩ = some (.string ⟨#[]⟩) := BlkAt.cell hk2 rfl
  have f0 := BlkAt.frozen hk2 0
  have f1 := BlkAt.frozen hk2 1
  have f2 := BlkAt.frozen hk2 2
  go_region_with (go_at_call 28; refine (HT.out _ (by first | exact hr2 | exact rd_drew hr2)).mono ?_; rintro e wX ⟨rfl, hrX, hgX⟩; have hkX := BlkAt.grown (BlkAt.drew hk2) hgX (fun e => hne (Option.some.inj e)); have kx0 := BlkAt.cell hkX (i := 0) rfl; have kx1 := BlkAt.cell hkX (i := 1) rfl; have kx2 := BlkAt.cell hkX (i := 2) rfl; have fx0 := BlkAt.frozen hkX 0; have fx1 := BlkAt.frozen hkX 1; have fx2 := BlkAt.frozen hkX 2; have hzX := BlkAt.grown (BlkAt.drew hz2) hgX (fun e => hnz (Option.some.inj e)); have zx0 := BlkAt.cell hzX (i := 0) rfl; have zx1 := BlkAt.cell hzX (i := 1) rfl)
  all_goals
    have hS := ((hkX.set 0 (.int .i64 a)).set 1 (.int .i64 b)).set 2 (.string (bs s))
    have hgS := grownTrans (grownTrans (grown_set wX k 0 (.int .i64 a)) (grown_set _ k 1 (.int .i64 b))) (grown_set _ k 2 (.string (bs s)))
    simp only [List.set_cons_zero, List.set_cons_succ] at hS
    have hvX := BlkAt.grown (BlkAt.drew hv2) hgX (fun e => hvq (Option.some.inj e))
    generalize hWX : ((wX.setCell ⟨k, 0, none⟩ (.int .i64 a)).setCell ⟨k, 1, none⟩ (.int .i64 b)).setCell ⟨k, 2, none⟩ (.string (bs s)) = wS at *
    have hgA := grown_new (grownTrans (grownTrans (grownTrans (grownTrans HG0' hg1) hg2) (grown_drew W2 (some q))) hgX) hgS (Nat.le_of_eq HKK.out)
    have hld := run_load_blk (P := Try.prog) hS _ Try.underlying69 rfl (by kernel_rfl)
    have hvS : VAt v q bad wS := BlkAt.grown hvX hgS (fun e => hnv (Option.some.inj e).symm)
    have hrS : RdAt PackRd q r3 wS := (hgS.block q (RdAt.lt hrX) (fun e => hne (Option.some.inj e).symm)).trans hrX
    clear hWX
    go_wp2
    exact bodyPost_ret (v := .agg #[.int .i64 a, .int .i64 b, .string (bs s)]) (results_cell Try.results79 _ _ _ ⟨k, 0, none⟩ _ (by rfl) hld) rfl ⟨rfl, hvS, hrS, hgA⟩
def WellSaid (r : Rd) (w : World) (e : Ending) (w' : World) : Prop := e = .returned (.bool (decide (endR r = 0) || decide (endR r = 12))) ∧ w' = w
set_option maxRecDepth 100000 in
set_option maxHeartbeats 1600000 in
theorem rdWell_any (v q : Nat) (bad : Bool) (r : Rd) (w : World) (hv : VAt v q bad w) (hr : RdAt PackRd q r w) : Calls Try.prog 64 #[.pointer (some ⟨v, 0, none⟩)] w fun e w' => WellSaid r w e w' := by
  have HE := Lib.hid (end_at q r w hr (k := endR r) rfl)
  have HV : Hid ((decide (endR r = 0) || decide (endR r = 12)) = (decide (endR r = 0) || decide (endR r = 12))) := rfl
  have m0 : w.cell? ⟨v, 0, none⟩ = some (.pointer (some ⟨q, 0, none⟩)) := BlkAt.cell hv rfl
  unfold WellSaid
  generalize endR r = k at *
  clear hv hr HV
  by_cases h0 : k = 0
  · subst h0
    go_enter Try.func64, Try.ntmps64
    go_wp2_with (fail)
    refine HE.out.mono ?_
    rintro e w1 ⟨rfl, rfl⟩
    go_wp2
    go_ret
    exact ⟨rfl, rfl⟩
  · have t1 : ((k : Int) == 0) = false := beq_eq_false_iff_ne.2 (by omega)
    by_cases h12 : k = 12
    · subst h12
      go_enter Try.func64, Try.ntmps64
      go_wp2_with (fail)
      refine HE.out.mono ?_
      rintro e w1 ⟨rfl, rfl⟩
      go_wp2
      go_ret
      exact ⟨rfl, rfl⟩
    · have t2 : ((k : Int) == 12) = false := beq_eq_false_iff_ne.2 (by omega)
      rw [decide_eq_false h0, decide_eq_false h12]
      go_enter Try.func64, Try.ntmps64
      go_wp2_with (fail)
      refine HE.out.mono ?_
      rintro e w1 ⟨rfl, rfl⟩
      go_wp2
      go_ret
      exact ⟨rfl, rfl⟩
/-- The reader's flag: what was bad stays bad, and a number that is neither 0 nor 1 is. -/
def flagBad (bad : Bool) (n : Int) : Bool := bad || (!decide (n = 0) && !decide (n = 1))
def FlagSaid (v q : Nat) (bad : Bool) (n : Int) (r1 : Rd) (w : World) (e : Ending) (w' : World) : Prop := e = .returned (.bool (decide (n = 1))) ∧ VAt v q (flagBad bad n) w' ∧ RdAt PackRd q r1 w' ∧ ∃ a, w.grownBy a (some q) ∧ a.grownBy w' (some v)
set_option maxRecDepth 100000 in
set_option maxHeartbeats 1600000 in
theorem rdFlag_any (v q : Nat) (hvq : v ≠ q) (bad : Bool) (r r1 : Rd) (n : Int) (w : World) (hv : VAt v q bad w) (hr : RdAt PackRd q r w) (hl : r.l.length ≤ 9223372036854775807) (h1 : numR r = (n, r1)) :
    Calls Try.prog 88 #[.pointer (some ⟨v, 0, none⟩)] w fun e w' => FlagSaid v q bad n r1 w e w' := by
  have HA := Lib.hid (numRead_at q r w hr hl h1)
  have m0 : w.cell? ⟨v, 0, none⟩ = some (.pointer (some ⟨q, 0, none⟩)) := BlkAt.cell hv rfl
  have key : ∀ (w1 : World) (d : Bool), VAt v q bad w1 → RdAt PackRd q r1 w1 → w.grownBy w1 (some q) → d = flagBad bad n → FlagSaid v q bad n r1 w (.returned (.bool (decide (n = 1)))) (w1.setCell ⟨v, 1, none⟩ (.bool d)) := by
    intro w1 d hv1 hr1 hg1 hd
    subst hd
    refine ⟨rfl, ?_, ?_, w1, hg1, grown_set w1 v 1 _⟩
    · have := BlkAt.set hv1 1 (.bool (flagBad bad n)); simpa [VAt] using this
    · exact ((grown_set w1 v 1 (.bool (flagBad bad n))).block q (RdAt.lt hr1) (fun e => hvq (Option.some.inj e).symm)).trans hr1
  have KEY := Lib.hid key
  clear key hr h1 hl
  go_enter Try.func88, Try.ntmps88
  go_wp2_with (fail)
  refine HA.out.mono ?_
  rintro e w1 ⟨rfl, hr1, hg1⟩
  have hv1 := VAt.grown hv hg1 hvq
  have n0 : w1.cell? ⟨v, 1, none⟩ = some (.bool bad) := BlkAt.cell hv1 rfl
  have nz := BlkAt.frozen hv1 1
  have K := Lib.hid (fun d => KEY.out w1 d hv1 hr1 hg1)
  clear HA KEY m0
  cases bad
  · by_cases h0 : n = 0
    · subst h0
      go_wp2
      go_ret
      exact K.out _ rfl
    · have t0 : (n == 0) = false := beq_eq_false_iff_ne.2 h0
      have t0' : (n != 0) = true := bne_iff_ne.2 h0
      by_cases h1 : n = 1
      · subst h1
        go_wp2
        go_ret
        exact K.out _ rfl
      · have t1 : (n == 1) = false := beq_eq_false_iff_ne.2 h1
        have t1' : (n != 1) = true := bne_iff_ne.2 h1
        have hd : decide (n = 1) = false := decide_eq_false h1
        rw [hd] at K
        go_wp2
        go_ret
        exact K.out _ (by simp [flagBad, h0, h1])
  · have K := Lib.hid (K.out true (by simp [flagBad]))
    by_cases h1 : n = 1
    · subst h1
      go_wp2
      go_ret
      exact K.out
    · have t1 : (n == 1) = false := beq_eq_false_iff_ne.2 h1
      have hd : decide (n = 1) = false := decide_eq_false h1
      rw [hd] at K
      go_wp2
      go_ret
      exact K.out
end Go.Proofs.Ytlbacddgjagcbaa
