/- The reference's taker and its Decode, walked. Conditions: as each theorem says. -/
import Derived.Test.YtlbacddgjagcbaaSets
import Derived.Deep.Quiet
import Derived.Test.YtlbacddgjagcbaaValDb
import Derived.Test.YtlbacddgjagcbaaPackG
import Derived.Test.YtlbacddgjagcbaaValRa
import Derived.Test.YtlbacddgjagcbaaValDf
import Derived.Deep.CutBlock
import Derived.Deep.DeepCutAuto
import Derived.Deep.CutRange
namespace Go.Proofs.Ytlbacddgjagcbaa
open Go.RowKit Go

theorem setCell_same {w : World} {g i : Nat} {T : TypeId} {cs : List Value} {v : Value} (h : BlkAt g T cs w) (hv : cs[i]? = some v) : w.setCell ⟨g, i, none⟩ v = w := by
  unfold BlkAt at h
  have hi : i < cs.length := (List.getElem?_eq_some_iff.1 hv).1
  have he : cs[i] = v := (List.getElem?_eq_some_iff.1 hv).2
  have hh : (w.setCell ⟨g, i, none⟩ v).heap = w.heap := by
    apply Array.ext_getElem?
    intro k
    unfold World.setCell
    simp only [Array.getElem?_modify]
    split
    · rename_i hk
      subst hk
      rw [h]
      simp only [Option.map_some, Option.isSome_none, Bool.false_eq_true, if_false, Option.some.injEq, Obj.cells.injEq, and_true]
      rw [List.setIfInBounds_toArray, ← he, List.set_getElem_self]
    · rfl
  have e : w.setCell ⟨g, i, none⟩ v = { w with heap := (w.setCell ⟨g, i, none⟩ v).heap } := rfl
  rw [e, hh]
theorem setCells_same {g : Nat} {T : TypeId} {cs : List Value} (vs : List Value) : ∀ {w : World} (_ : BlkAt g T cs w) (o : Nat), (∀ j, j < vs.length → cs[o + j]? = vs[j]?) → w.setCells g o vs = w := by
  induction vs with
  | nil => intro w _ o _; rfl
  | cons v vs ih =>
    intro w h o hv
    have h0 := hv 0 (by simp)
    show (w.setCell ⟨g, o, none⟩ v).setCells g (o + 1) vs = w
    rw [setCell_same h (by simpa using h0)]
    exact ih h (o + 1) (fun j hj => by have := hv (j + 1) (by simp; omega); simp only [List.getElem?_cons_succ] at this; rw [← this]; congr 1; omega)
/-- The store, in whatever world of the class: it is as if nothing was. -/
theorem quiet_store_same {P : Program} {C : World → Prop} {o : Oper} {a : Act} {K : Act → Prop} (ty : TypeId) (x y : Operand) (ho : o.op = .store ty x y)
    (g : Nat) (T : TypeId) (cs : List Value) (hx : a.eval x = .pointer (some ⟨g, 0, none⟩)) (hy : a.eval y = .agg cs.toArray) (hb : ∀ W, C W → BlkAt g T cs W) (hi : (P.info? ty).map (·.size) = some cs.length)
    (h1 : ∀ v ∈ cs, v.oneCell' = true) (h : K (a.put o.dst undef)) : o.quiet P a C K := by
  refine ⟨undef, fun W hW => ?_, h⟩
  have hs := setCells_same cs (hb W hW) 0 (fun j _ => by simp)
  unfold Oper.quietAt execOp
  simp only [ho, hx, hy, Instr.storeAt, Instr.sureAddr, Sem.run_bind, Sem.run_pure, Result.andThen_ok, run_storeVar_mid W g 0 ty cs.toArray ((hb W hW).there 0 _ (by simp)) (by simpa using hi) (all_oneCell_toArray h1)]
  rw [hs]
  exact ⟨rfl, rfl⟩
end Go.Proofs.Ytlbacddgjagcbaa
namespace Go.Proofs.Ytlbacddgjagcbaa
open Go.RowKit

abbrev RefRd : TypeId := 43
abbrev TkT : TypeId := 117
theorem refNum_at (b : Nat) (r : Rd) (w : World) (h : RdAt 43 b r w) (hl : r.l.length ≤ 9223372036854775807) {n : Int} {r2 : Rd} (hn : numR r = (n, r2)) :
    Calls Try.prog 30 #[.pointer (some ⟨b, 0, none⟩)] w fun e w' => e = .returned (.int .i64 n) ∧ RdAt 43 b r2 w' ∧ w.grownBy w' (some b) := by
  have h1 := refNum_any b r w h hl
  rw [hn] at h1; exact h1
theorem refText_at (b : Nat) (r : Rd) (w : World) (h : RdAt 43 b r w) (hl : r.l.length ≤ 9223372036854775807) {s : List UInt8} {r2 : Rd} (hn : textR r = (s, r2)) :
    Calls Try.prog 31 #[.pointer (some ⟨b, 0, none⟩)] w fun e w' => e = .returned (.string (bs s)) ∧ RdAt 43 b r2 w' ∧ w.grownBy w' (some b) := by
  have h1 := refText_any b r w h hl
  rw [hn] at h1; exact h1
/-- The taker at block v: over the reference's reader at block q, and whether a number was not right. -/
def TAt (v q : Nat) (bad : Bool) (w : World) : Prop := BlkAt v 117 [.pointer (some ⟨q, 0, none⟩), .bool bad] w
theorem TAt.grown {v q : Nat} {bad : Bool} {w w' : World} (h : TAt v q bad w) (hg : w.grownBy w' (some q)) (hne : v ≠ q) : TAt v q bad w' := BlkAt.grown h hg (fun e => hne (Option.some.inj e))
def TZxSaid (v q : Nat) (bad : Bool) (a b : Int) (r2 : Rd) (w : World) (e : Ending) (w' : World) : Prop := e = .returned (.agg #[.int .i64 a, .int .i64 b]) ∧ TAt v q bad w' ∧ RdAt RefRd q r2 w' ∧ w.grownBy w' (some q)
set_option maxRecDepth 100000 in
set_option maxHeartbeats 4000000 in
theorem tkZxid_any (v q : Nat) (hvq : v ≠ q) (bad : Bool) (r r1 r2 : Rd) (a b : Int) (w : World) (hv : TAt v q bad w) (hr : RdAt RefRd q r w) (hl : r.l.length ≤ 9223372036854775807) (h1 : numR r = (a, r1)) (h2 : numR r1 = (b, r2)) :
    Calls Try.prog 66 #[.pointer (some ⟨v, 0, none⟩)] w fun e w' => TZxSaid v q bad a b r2 w e w' := by
  have hl1 : r1.l.length ≤ 9223372036854775807 := by have := numR_len r; rw [h1] at this; simp only at this; omega
  have HA := Lib.hid (fun X hX => refNum_at q r X hX hl h1)
  have HB := Lib.hid (fun X hX => refNum_at q r1 X hX hl1 h2)
  have hne : w.heap.size ≠ q := fun e => by have := hr.lt; omega
  have hnv : w.heap.size ≠ v := fun e => by have := BlkAt.lt hv; omega
  obtain ⟨W, hW⟩ : ∃ X, X = w.alloc (.cells #[.int .i64 0, .int .i64 0] 48) := ⟨_, rfl⟩
  have hk : BlkAt w.heap.size 48 [.int .i64 0, .int .i64 0] W := by rw [hW]; exact BlkAt.alloc_new w _ _
  have hg0 : w.grownBy W (some q) := by rw [hW]; exact grownAlloc w _ _
  have hvW : TAt v q bad W := hv.grown hg0 hvq
  have hrW : RdAt RefRd q r W := by rw [hW]; exact Grew.at_ (alloc_below w _) hr
  have HW := Lib.hid hW
  have HG0 := Lib.hid hg0
  clear hW hv hr h1 h2 hg0 hl hl1
  go_enter Try.func66, Try.ntmps66
  go_upto_region 1 with (fail)
  rw [← HW.out]
  clear HW
  have HG0' : w.grownBy W (some q) := HG0.out
  generalize hkk : w.heap.size = k at *
  have HKK := Lib.hid hkk
  clear hkk
  have m0 : W.cell? ⟨v, 0, none⟩ = some (.pointer (some ⟨q, 0, none⟩)) := BlkAt.cell hvW rfl
  go_wp2_with (fail)
  refine (HA.out _ hrW).mono ?_
  rintro e w1 ⟨rfl, hr1, hg1⟩
  have hv1 := TAt.grown hvW hg1 hvq
  have hk1 := BlkAt.grown hk hg1 (fun e => hne (Option.some.inj e))
  clear m0
  have m0 : w1.cell? ⟨v, 0, none⟩ = some (.pointer (some ⟨q, 0, none⟩)) := BlkAt.cell hv1 rfl
  go_wp2_with (fail)
  refine (HB.out _ hr1).mono ?_
  rintro e w2 ⟨rfl, hr2, hg2⟩
  have hv2 := TAt.grown hv1 hg2 hvq
  have hk2 := BlkAt.grown hk1 hg2 (fun e => hne (Option.some.inj e))
  clear m0
  go_wp2_with (refine wpList_store_blk (by rfl) 48 _ _ (by rfl) k 48 [.int .i64 0, .int .i64 0] [.int .i64 a, .int .i64 b] (by rfl) (by rfl) hk2 rfl (by kernel_rfl) (by intro u hu; simp only [List.mem_cons, List.not_mem_nil, or_false] at hu; rcases hu with rfl | rfl <;> rfl) ?_)
  intro w3 hS3 hg3
  have hld := run_load_blk (P := Try.prog) hS3 _ Try.underlying48 rfl (by kernel_rfl)
  go_wp2
  exact bodyPost_ret (v := .agg #[.int .i64 a, .int .i64 b]) (results_cell Try.results66 _ _ _ ⟨k, 0, none⟩ _ (by rfl) hld) rfl ⟨rfl, BlkAt.grown hv2 hg3 (fun e => hnv (Option.some.inj e).symm), by unfold RdAt; exact (hg3.block q (by exact (RdAt.lt hr2)) (fun e => hne (Option.some.inj e).symm)).trans hr2, grown_new (grownTrans (grownTrans HG0.out hg1) hg2) hg3 (Nat.le_of_eq HKK.out)⟩
def TFlagSaid (v q : Nat) (bad : Bool) (n : Int) (r1 : Rd) (w : World) (e : Ending) (w' : World) : Prop := e = .returned (.bool (decide (n = 1))) ∧ TAt v q (flagBad bad n) w' ∧ RdAt RefRd q r1 w' ∧ ∃ a, w.grownBy a (some q) ∧ a.grownBy w' (some v)
set_option maxRecDepth 100000 in
set_option maxHeartbeats 1600000 in
theorem tkFlag_any (v q : Nat) (hvq : v ≠ q) (bad : Bool) (r r1 : Rd) (n : Int) (w : World) (hv : TAt v q bad w) (hr : RdAt RefRd q r w) (hl : r.l.length ≤ 9223372036854775807) (h1 : numR r = (n, r1)) :
    Calls Try.prog 68 #[.pointer (some ⟨v, 0, none⟩)] w fun e w' => TFlagSaid v q bad n r1 w e w' := by
  have HA := Lib.hid (refNum_at q r w hr hl h1)
  have m0 : w.cell? ⟨v, 0, none⟩ = some (.pointer (some ⟨q, 0, none⟩)) := BlkAt.cell hv rfl
  have key : ∀ (w1 : World) (d : Bool), TAt v q bad w1 → RdAt RefRd q r1 w1 → w.grownBy w1 (some q) → d = flagBad bad n → TFlagSaid v q bad n r1 w (.returned (.bool (decide (n = 1)))) (w1.setCell ⟨v, 1, none⟩ (.bool d)) := by
    intro w1 d hv1 hr1 hg1 hd
    subst hd
    refine ⟨rfl, ?_, ?_, w1, hg1, grown_set w1 v 1 _⟩
    · have := BlkAt.set hv1 1 (.bool (flagBad bad n)); simpa [TAt] using this
    · exact ((grown_set w1 v 1 (.bool (flagBad bad n))).block q (RdAt.lt hr1) (fun e => hvq (Option.some.inj e).symm)).trans hr1
  have KEY := Lib.hid key
  clear key hr h1 hl
  go_enter Try.func68, Try.ntmps68
  go_wp2_with (fail)
  refine HA.out.mono ?_
  rintro e w1 ⟨rfl, hr1, hg1⟩
  have hv1 := TAt.grown hv hg1 hvq
  have n0 : w1.cell? ⟨v, 1, none⟩ = some (.bool bad) := BlkAt.cell hv1 rfl
  have nz := BlkAt.frozen hv1 1
  have K := Lib.hid (fun d => KEY.out w1 d hv1 hr1 hg1)
  clear HA KEY m0
  cases bad
  · by_cases h0 : n = 0
    · subst h0
      go_wp2
      go_ret
      exact K.out _ rfl
    · have t0 : (n == 0) = false := beq_eq_false_iff_ne.2 h0
      have t0' : (n != 0) = true := bne_iff_ne.2 h0
      by_cases h1 : n = 1
      · subst h1
        go_wp2
        go_ret
        exact K.out _ rfl
      · have t1 : (n == 1) = false := beq_eq_false_iff_ne.2 h1
        have t1' : (n != 1) = true := bne_iff_ne.2 h1
        have hd : decide (n = 1) = false := decide_eq_false h1
        rw [hd] at K
        go_wp2
        go_ret
        exact K.out _ (by simp [flagBad, h0, h1])
  · have K := Lib.hid (K.out true (by simp [flagBad]))
    by_cases h1 : n = 1
    · subst h1
      go_wp2
      go_ret
      exact K.out
    · have t1 : (n == 1) = false := beq_eq_false_iff_ne.2 h1
      have hd : decide (n = 1) = false := decide_eq_false h1
      rw [hd] at K
      go_wp2
      go_ret
      exact K.out
theorem tzx_at (v q : Nat) (hvq : v ≠ q) (bad : Bool) (r : Rd) (hl : r.l.length ≤ 9223372036854775807) {a b : Int} {r2 : Rd} (hn : numsR 2 r = ([a, b], r2)) (w : World) (h : Rds TkT RefRd v q bad r w) :
    Calls Try.prog 66 #[.pointer (some ⟨v, 0, none⟩)] w fun e w' => e = .returned (.agg #[.int .i64 a, .int .i64 b]) ∧ Rds TkT RefRd v q bad r2 w' ∧ Gr2 q v w w' := by
  simp only [numsR, Prod.mk.injEq, List.cons.injEq, and_true] at hn
  obtain ⟨⟨rfl, rfl⟩, rfl⟩ := hn
  exact (tkZxid_any v q hvq bad r _ _ _ _ w h.v h.r hl rfl rfl).mono fun _ _ ⟨h1, h2, h3, h4⟩ => ⟨h1, ⟨h2, h3⟩, Gr2.of_q h4⟩
theorem tflag_at (v q : Nat) (hvq : v ≠ q) (bad : Bool) (r : Rd) (hl : r.l.length ≤ 9223372036854775807) {n : Int} {r1 : Rd} (hn : numR r = (n, r1)) (w : World) (h : Rds TkT RefRd v q bad r w) :
    Calls Try.prog 68 #[.pointer (some ⟨v, 0, none⟩)] w fun e w' => e = .returned (.bool (decide (n = 1))) ∧ Rds TkT RefRd v q (bad || badFlag n) r1 w' ∧ Gr2 q v w w' :=
  (tkFlag_any v q hvq bad r r1 n w h.v h.r hl hn).mono fun _ _ ⟨h1, h2, h3, _, g1, g2⟩ => ⟨h1, ⟨h2, h3⟩, (Gr2.of_q g1).trans (Gr2.of_v g2)⟩
theorem tnum_at (v q : Nat) (hvq : v ≠ q) (bad : Bool) (r : Rd) (hl : r.l.length ≤ 9223372036854775807) {n : Int} {r1 : Rd} (hn : numR r = (n, r1)) (w : World) (h : Rds TkT RefRd v q bad r w) :
    Calls Try.prog 30 #[.pointer (some ⟨q, 0, none⟩)] w fun e w' => e = .returned (.int .i64 n) ∧ Rds TkT RefRd v q bad r1 w' ∧ Gr2 q v w w' :=
  (refNum_at q r w h.r hl hn).mono fun _ _ ⟨h1, h2, h3⟩ => ⟨h1, h.num hvq h2 h3, Gr2.of_q h3⟩
theorem ttext_at (v q : Nat) (hvq : v ≠ q) (bad : Bool) (r : Rd) (hl : r.l.length ≤ 9223372036854775807) {s : List UInt8} {r1 : Rd} (hn : textR r = (s, r1)) (w : World) (h : Rds TkT RefRd v q bad r w) :
    Calls Try.prog 31 #[.pointer (some ⟨q, 0, none⟩)] w fun e w' => e = .returned (.string (bs s)) ∧ Rds TkT RefRd v q bad r1 w' ∧ Gr2 q v w w' :=
  (refText_at q r w h.r hl hn).mono fun _ _ ⟨h1, h2, h3⟩ => ⟨h1, h.num hvq h2 h3, Gr2.of_q h3⟩
set_option maxRecDepth 100000 in
set_option maxHeartbeats 4000000 in
theorem tent_at (v q : Nat) (hvq : v ≠ q) (bad : Bool) (r : Rd) (hl : r.l.length ≤ 9223372036854775807) (w : World) (h : Rds TkT RefRd v q bad r w) :
    Calls Try.prog 67 #[.pointer (some ⟨v, 0, none⟩)] w fun e w' => e = .returned (entV (entR r).1) ∧ Rds TkT RefRd v q bad (entR r).2 w' ∧ Gr2 q v w w' := by
  rcases e0 : numR r with ⟨a, r1⟩
  rcases e1 : numR r1 with ⟨b, r2⟩
  rcases e2 : textR r2 with ⟨s, r3⟩
  have hz : numsR 2 r = ([a, b], r2) := by simp [numsR, e0, e1]
  have hx : entR r = (⟨a, b, s⟩, r3) := by unfold entR; rw [hz]; simp [e2]
  rw [hx]
  have hl2 := len_nums hz hl
  have HZ := Lib.hid (fun X hX => tzx_at v q hvq bad r hl hz X hX)
  have HT := Lib.hid (fun X hX => ttext_at v q hvq bad r2 hl2 e2 X hX)
  unfold entV
  simp only
  clear hx hz e0 e1 e2 hl hl2
  obtain ⟨W, hW⟩ : ∃ X, X = w.alloc (.cells #[.int .i64 0, .int .i64 0, .string ⟨#[]⟩] 72) := ⟨_, rfl⟩
  have hsW : Rds TkT RefRd v q bad r W := by rw [hW]; exact h.grew (alloc_below w _)
  have hjW : BlkAt w.heap.size 72 [.int .i64 0, .int .i64 0, .string ⟨#[]⟩] W := by rw [hW]; exact BlkAt.alloc_new w _ _
  have hgW : Gr2 q v w W := by rw [hW]; exact Gr2.of_below (alloc_below w _)
  have hjv : w.heap.size ≠ v := fun e => by have := BlkAt.lt h.v; omega
  have hjq : w.heap.size ≠ q := fun e => by have := RdAt.lt h.r; omega
  have HW := Lib.hid hW
  clear hW h
  go_enter Try.func67, Try.ntmps67
  go_upto_region 1 with (fail)
  rw [← HW.out]
  clear HW
  go_wp2_with (fail)
  refine (HZ.out _ hsW).mono ?_
  rintro e w1 ⟨rfl, hs1, hg1⟩
  have hj1 := hg1.blk hjW hjq hjv
  have hgw1 := hgW.trans hg1
  have hkv : w1.heap.size ≠ v := fun e => by have := BlkAt.lt hs1.v; omega
  have hkq : w1.heap.size ≠ q := fun e => by have := RdAt.lt hs1.r; omega
  have hkj : w.heap.size ≠ w1.heap.size := fun e => by have := BlkAt.lt hj1; omega
  have hkw : w.heap.size ≤ w1.heap.size := hgw1.size
  go_wp2_with (refine wpList_store_blk (by rfl) 48 _ _ (by rfl) w1.heap.size 48 [.int .i64 0, .int .i64 0] [.int .i64 a, .int .i64 b] (by rfl) (by rfl) (BlkAt.alloc_new w1 _ _) rfl (by kernel_rfl) (by intro u hu; simp only [List.mem_cons, List.not_mem_nil, or_false] at hu; rcases hu with rfl | rfl <;> rfl) ?_)
  intro w2 hk2 hg2
  have hs2 := (hs1.grew (alloc_below w1 _)).kept hg2 (Ne.symm hkv) (Ne.symm hkq)
  have hj2 := BlkAt.grown (hj1.grew (alloc_below w1 _)) hg2 (fun e => hkj (Option.some.inj e))
  have hgw2 := (hgw1.trans (Gr2.of_below (alloc_below w1 _))).own hg2 hkw
  clear hs1 hg1 hj1 hgw1 hg2 hsW hjW hgW
  go_upto_region 2 with (fail)
  have m0 : w2.cell? ⟨v, 0, none⟩ = some (.pointer (some ⟨q, 0, none⟩)) := BlkAt.cell hs2.v rfl
  go_wp2_with (fail)
  refine (HT.out _ hs2).mono ?_
  rintro e w3 ⟨rfl, hs3, hg3⟩
  have hj3 := hg3.blk hj2 hjq hjv
  have hk3 := hg3.blk hk2 hkq hkv
  have hgw3 := hgw2.trans hg3
  clear hs2 hj2 hk2 hgw2 hg3 m0
  have c0 := BlkAt.cell hk3 (i := 0) rfl
  have c1 := BlkAt.cell hk3 (i := 1) rfl
  go_wp2_with (refine wpList_store_blk (by rfl) 72 _ _ (by rfl) w.heap.size 72 [.int .i64 0, .int .i64 0, .string ⟨#[]⟩] [.int .i64 a, .int .i64 b, .string (bs s)] (by rfl) (by rfl) hj3 rfl (by kernel_rfl) (by intro u hu; simp only [List.mem_cons, List.not_mem_nil, or_false] at hu; rcases hu with rfl | rfl | rfl <;> rfl) ?_)
  intro w9 hS9 hg9
  have hld9 := run_load_blk (P := Try.prog) hS9 _ Try.underlying72 rfl (by kernel_rfl)
  go_wp2
  exact bodyPost_ret (v := .agg #[.int .i64 a, .int .i64 b, .string (bs s)]) (results_cell Try.results67 _ _ _ ⟨w.heap.size, 0, none⟩ _ (by rfl) hld9) rfl ⟨rfl, hs3.kept hg9 (Ne.symm hjv) (Ne.symm hjq), hgw3.own hg9 (Nat.le_refl _)⟩
end Go.Proofs.Ytlbacddgjagcbaa
namespace Go.Proofs.Ytlbacddgjagcbaa
open Go.RowKit

theorem results_cell2 {fn : Func} {s u : Tmp} {T : TypeId} (h : fn.results = #[.cell s T, .tmp u]) (tmps : Array Value) (P : Program) (w : World) (p : Addr) (v x : Value) (hp : tmps.getD s undef = .pointer (some p)) (hu : tmps.getD u undef = x) (hl : (loadVar T p).run P w = .ok v w) :
    (results fn tmps).run P w = .ok (.tuple #[v, x]) w := by
  have hp' : tmps[s]?.getD undef = .pointer (some p) := by simpa using hp
  have hu' : tmps[u]?.getD undef = x := by simpa using hu
  unfold results
  simp [h, asAddr, hp', hl, hu']
def RDecSaid (x : Mv × Nat) (w : World) (e : Ending) (w' : World) : Prop := ∃ a cap, e = .returned (.tuple #[msgV (plM x.1) a cap, .int .i64 (x.2 : Int)]) ∧ EntsIn w' a cap (plM x.1).ents ∧ Below w.heap.size w w'
theorem rdec_no {x : Mv × Nat} {k : Nat} {w : World} {e : Ending} {w' : World} (hx : x = (.none, k)) (he : e = .returned (.tuple #[msgV zeroM none 0, .int .i64 (k : Int)])) (hb : Below w.heap.size w w') : RDecSaid x w e w' := by subst hx; exact ⟨none, 0, he, ents_none _, hb⟩
theorem rdec_yes {x : Mv × Nat} {m : Mv} {a : Option Addr} {cap : Nat} {w : World} {e : Ending} {w' : World} (hx : x = (m, 0)) (he : e = .returned (.tuple #[msgV (plM m) a cap, .int .i64 0])) (hE : EntsIn w' a cap (plM m).ents) (hb : Below w.heap.size w w') : RDecSaid x w e w' := by subst hx; exact ⟨a, cap, he, hE, hb⟩
/-- The reference's Right at a message. -/
theorem refRight_all (x : Mv) (a : Option Addr) (cap : Nat) (w : World) (hm : isMv x = true) (hE : EntsIn w a cap (plM x).ents) (hn : flatMv x = true → a = none ∧ cap = 0) (hb : lenMv x) : Calls Try.prog 58 #[msgV (plM x) a cap] w fun e w' => e = .returned (.bool (rightMv x)) ∧ Below w.heap.size w w' := by
  cases x with
  | vote l z p r s => obtain ⟨rfl, rfl⟩ := hn rfl; exact refRight_vote l z p r s w
  | info k p o z => obtain ⟨rfl, rfl⟩ := hn rfl; exact refRight_info k p o z w
  | sync k p f z b L => exact refRight_sync k p f z b L a cap w hE hb
  | prop x => exact refRight_prop x a cap w hE
  | ack f z => obtain ⟨rfl, rfl⟩ := hn rfl; exact refRight_ack f z w
  | ask n c q f b => obtain ⟨rfl, rfl⟩ := hn rfl; exact refRight_ask n c q f b w
  | none => cases hm
def RCut (D : Mv × Nat) (v q k j : Nat) (w wx : World) : Prop :=
  ∃ (m : Mv) (bad : Bool) (rr : Rd) (a : Option Addr) (cap : Nat), D = restR (m, bad, rr) ∧ isMv m = true ∧ lenMv m ∧ rr.e ≠ 12 ∧ Mid TkT RefRd 51 v q k j bad rr (msgCells (plM m) a cap) (msgCells zeroM none 0) w wx ∧ EntsIn wx a cap (plM m).ents ∧ (flatMv m = true → a = none ∧ cap = 0) ∧ (∀ p : Addr, a = some p → p.block ≠ j)
theorem rcut {D : Mv × Nat} {v q k j : Nat} {w wx : World} {m : Mv} {bad : Bool} {rr : Rd} (hD : D = restR (m, bad, rr)) (h1 : isMv m = true) (h2 : lenMv m) (h3 : rr.e ≠ 12) (hM : Mid TkT RefRd 51 v q k j bad rr (msgCells (plM m) none 0) (msgCells zeroM none 0) w wx) (hn : (plM m).ents = []) : RCut D v q k j w wx :=
  ⟨m, bad, rr, none, 0, hD, h1, h2, h3, hM, by rw [hn]; exact ents_none _, fun _ => ⟨rfl, rfl⟩, fun p hp => by cases hp⟩
abbrev zs17 : List Value := msgCells zeroM none 0

set_option maxRecDepth 100000 in
set_option maxHeartbeats 64000000 in
theorem refDecode_any (l : List UInt8) (hl : l.length ≤ 9223372036854775807) (w : World) : Calls Try.prog 48 #[.string (bs l)] w fun e w' => RDecSaid (decR l) w e w' := by
  obtain ⟨i5, hi, hz0, hz1, hz2⟩ := info_parts infoREnt
  have HD1 := Lib.hid (dec_e1 l)
  have HD2 := Lib.hid (dec_e2 l)
  have HD3 := Lib.hid (dec_go l)
  have hl1 := numR_len ⟨l, 0⟩
  have he1 := numR_err ⟨l, 0⟩ (by simp)
  rcases hN : numR ⟨l, 0⟩ with ⟨kd, r⟩
  rw [hN] at HD1 HD2 HD3 hl1 he1
  simp only at HD1 HD2 HD3 hl1 he1
  have hl1 : r.l.length ≤ 9223372036854775807 := Nat.le_trans hl1 hl
  have hlen := msgR_len kd r hl1
  have HNU := Lib.hid (fun v q hvq X hX => tnum_at v q hvq false ⟨l, 0⟩ hl hN X hX)
  have HEN := Lib.hid (fun q r X hX => refEnd_any q r X hX)
  generalize decR l = D at *
  clear hN
  obtain ⟨W0, hW0⟩ : ∃ X, X = w.alloc (.cells #[.int .i64 0, .int .i64 0, .int .i64 0, .int .i64 0, .int .i64 0, .int .i64 0, .int .i64 0, .int .i64 0, .int .i64 0, .int .i64 0, .int .i64 0, .string ⟨#[]⟩, .slice none 0 0, .bool false, .int .i64 0, .int .i64 0, .int .i64 0] 51) := ⟨_, rfl⟩
  obtain ⟨W1, hW1⟩ : ∃ X, X = W0.alloc (.cells #[.string (bs l), .int .i64 0] RefRd) := ⟨_, rfl⟩
  obtain ⟨W, hW⟩ : ∃ X, X = W1.alloc (.cells #[.pointer (some ⟨w.heap.size + 1, 0, none⟩), .bool false] TkT) := ⟨_, rfl⟩
  have s0 : W0.heap.size = w.heap.size + 1 := by rw [hW0]; simp
  have s1 : W1.heap.size = w.heap.size + 1 + 1 := by rw [hW1, ← s0]; simp
  have hj : BlkAt w.heap.size 51 zs17 W := by
    have h0 : BlkAt w.heap.size 51 zs17 W0 := by rw [hW0]; exact BlkAt.alloc_new w _ _
    rw [hW]; refine BlkAt.grew ?_ (alloc_below W1 _)
    rw [hW1]; exact BlkAt.grew h0 (alloc_below W0 _)
  have hS : Rds TkT RefRd (w.heap.size + 1 + 1) (w.heap.size + 1) false ⟨l, 0⟩ W := by
    constructor
    · rw [hW, ← s1]; exact BlkAt.alloc_new W1 _ _
    · have h0 : RdAt RefRd (w.heap.size + 1) ⟨l, 0⟩ W1 := by rw [hW1, ← s0]; exact BlkAt.alloc_new W0 _ _
      rw [hW]; exact BlkAt.grew (rd_blk h0) (alloc_below W1 _)
  have hBW : Below w.heap.size w W := by
    have b0 : Below w.heap.size w W0 := by rw [hW0]; exact alloc_below w _
    have b1 : Below w.heap.size w W1 := by rw [hW1]; exact b0.trans ((alloc_below W0 _).mono b0.size)
    rw [hW]; exact b1.trans ((alloc_below W1 _).mono b1.size)
  have hWs : w.heap.size + 1 + 1 < W.heap.size := BlkAt.lt hS.v
  have HW : Hid (((w.alloc (.cells #[.int .i64 0, .int .i64 0, .int .i64 0, .int .i64 0, .int .i64 0, .int .i64 0, .int .i64 0, .int .i64 0, .int .i64 0, .int .i64 0, .int .i64 0, .string ⟨#[]⟩, .slice none 0 0, .bool false, .int .i64 0, .int .i64 0, .int .i64 0] 51)).alloc (.cells #[.string (bs l), .int .i64 0] RefRd)).alloc (.cells #[.pointer (some ⟨w.heap.size + 1, 0, none⟩), .bool false] TkT) = W) := by show _ = _; rw [hW, hW1, hW0]
  clear hW hW1 hW0 s0 s1
  go_enter Try.func48, Try.ntmps48
  go_upto_region 2 with (fail)
  rw [HW.out]
  clear HW
  have hvq : w.heap.size + 1 + 1 ≠ w.heap.size + 1 := by omega
  have hjv : w.heap.size ≠ w.heap.size + 1 + 1 := by omega
  have hjq : w.heap.size ≠ w.heap.size + 1 := by omega
  have hwv : w.heap.size ≤ w.heap.size + 1 + 1 := by omega
  have hwq : w.heap.size ≤ w.heap.size + 1 := by omega
  generalize w.heap.size + 1 + 1 = v at *
  generalize w.heap.size + 1 = q at *
  have m0 : W.cell? ⟨v, 0, none⟩ = some (.pointer (some ⟨q, 0, none⟩)) := BlkAt.cell hS.v rfl
  go_wp2_with (fail)
  refine (HNU.out v q hvq _ hS).mono ?_
  rintro e w1 ⟨rfl, hs1, hg1⟩
  have hj1 := hg1.blk hj hjq hjv
  have hkv : w1.heap.size ≠ v := fun e => by have := BlkAt.lt hs1.v; omega
  have hkq : w1.heap.size ≠ q := fun e => by have := RdAt.lt hs1.r; omega
  have hkj : w1.heap.size ≠ w.heap.size := fun e => by have := BlkAt.lt hj1; omega
  have hgw : Gr2 q v w w1 := (Gr2.of_below hBW).trans hg1
  have n4 : Four w v q w1.heap.size w.heap.size := ⟨hvq, hkv, hkq, hjv, hjq, hkj, hgw.size, Nat.le_refl _⟩
  go_wp2_with (refine wpList_store_blk (by rfl) 51 _ _ (by rfl) w1.heap.size 51 zs17 (msgCells ⟨kd, 0, (0, 0), 0, 0, (0, 0), 0, 0, 0, [], [], false, 0, 0, 0⟩ none 0) (by rfl) (by rfl) (BlkAt.alloc_new w1 _ _) rfl infoMsg (msgCells_one _ _ _) ?_)
  intro w2 hk2 hg2
  have hM : Mid TkT RefRd 51 v q w1.heap.size w.heap.size false r (msgCells ⟨kd, 0, (0, 0), 0, 0, (0, 0), 0, 0, 0, [], [], false, 0, 0, 0⟩ none 0) zs17 w w2 :=
    ⟨(hs1.grew (alloc_below w1 _)).kept hg2 (Ne.symm hkv) (Ne.symm hkq), hk2, BlkAt.grown (hj1.grew (alloc_below w1 _)) hg2 (fun e => hkj (Option.some.inj e).symm), (hgw.trans (Gr2.of_below (alloc_below w1 _))).own hg2 hgw.size⟩
  clear hS hs1 hg1 hj hj1 hk2 hg2 hgw m0 HNU hBW hWs
  have HB : Hid (∀ X, Gr2 q v w X → Below w.heap.size w X) := fun X hX => hX.below (Below.refl _ _) hwq hwv
  unfold msgCells at hM
  go_upto_region 3 with (fail)
  have m0 := hM.v0
  have q1 := RdAt.c1 hM.s.r
  have qe : ((r.e : Int) == 0) = decide (r.e = 0) := by by_cases h : r.e = 0 <;> simp [h]
  have qn : ((r.e : Int) != 0) = !decide (r.e = 0) := by by_cases h : r.e = 0 <;> simp [h]
  by_cases h1 : r.e = 0
  case neg =>
    as_aux_lemma =>
    rw [decide_eq_false h1] at qe qn
    have HD := Lib.hid (HD1.out h1)
    clear HD1 HD2 HD3 h1
    go_upto_region 4 with (fail)
    have hex := Grew.all w2
    refine wp_region_grew (by kernel_rfl) (by kernel_rfl) ?_
    repeat (first | go_big_quiet_skip | (go_big_quiet_want; first | (refine quiet_load_cell _ _ rfl ⟨v, 0, none⟩ rfl _ _ Try.underlying41 rfl (fun W hW => Grew.cell hW m0) ?_; simp only [Act.put, List.setIfInBounds_toArray, List.set_cons_succ, List.set_cons_zero]; go_big_quiet_on) | (refine quiet_load_cell _ _ rfl ⟨q, 1, none⟩ rfl _ _ Try.underlying34 rfl (fun W hW => Grew.cell hW q1) ?_; simp only [Act.put, List.setIfInBounds_toArray, List.set_cons_succ, List.set_cons_zero]; go_big_quiet_on) | (refine quiet_store_same _ _ _ rfl w.heap.size 51 zs17 (by rfl) (by rfl) (fun W hW => BlkAt.grew hM.j hW) infoMsg (msgCells_one _ _ _) ?_; simp only [Act.put]; go_big_quiet_on) | (go_big_quiet_op; go_big_quiet_on)))
    refine wpQuiet_nil ?_
    intro w3 hw3
    clear hex
    have hM3 := hM.grew hw3
    have hld := run_load_blk (P := Try.prog) hM3.j _ Try.underlying51 rfl infoMsg
    go_wp2
    exact bodyPost_ret (v := .tuple #[msgV zeroM none 0, .int .i64 (r.e : Int)]) (results_cell2 Try.results48 _ _ _ ⟨w.heap.size, 0, none⟩ _ _ (by rfl) (by rfl) hld) rfl (rdec_no HD.out rfl (HB.out _ hM3.g))

  rw [decide_eq_true h1] at qe qn
  go_upto_region 5 with (fail)
  have k0 := BlkAt.cell hM.k (i := 0) rfl
  have HNUM := Lib.hid (fun b r n r1 hl hn X hX => tnum_at v q hvq b r hl (n := n) (r1 := r1) hn X hX)
  clear m0 q1 qe qn
  go_upto_block 0 with (fail)
  go_cut [6, 7] from 36 to 207 (fun _ _ wx => RCut D v q w1.heap.size w.heap.size w wx)
  case first =>
    cases hk : isKind kd
    · as_aux_lemma =>
      have HD := Lib.hid (HD2.out h1 hk)
      have hk1 : (kd == 1) = false := beq_eq_false_iff_ne.2 (fun e => by subst e; simp [isKind] at hk)
      have hk2 : (kd == 2) = false := beq_eq_false_iff_ne.2 (fun e => by subst e; simp [isKind] at hk)
      have hk3 : (kd == 3) = false := beq_eq_false_iff_ne.2 (fun e => by subst e; simp [isKind] at hk)
      have hk4 : (kd == 4) = false := beq_eq_false_iff_ne.2 (fun e => by subst e; simp [isKind] at hk)
      have hk5 : (kd == 5) = false := beq_eq_false_iff_ne.2 (fun e => by subst e; simp [isKind] at hk)
      have hk6 : (kd == 6) = false := beq_eq_false_iff_ne.2 (fun e => by subst e; simp [isKind] at hk)
      clear hk HD1 HD2 HD3 h1
      go_wp2_with (refine wpList_store_blk (by rfl) 51 _ _ (by rfl) w.heap.size 51 zs17 zs17 (by rfl) (by rfl) hM.j rfl infoMsg (msgCells_one _ _ _) ?_)
      intro w9 hS9 hg9
      have hld := run_load_blk (P := Try.prog) hS9 _ Try.underlying51 rfl infoMsg
      go_wp2
      exact bodyPost_ret (v := .tuple #[msgV zeroM none 0, .int .i64 14]) (results_cell2 Try.results48 _ _ _ ⟨w.heap.size, 0, none⟩ _ _ (by rfl) (by rfl) hld) rfl (rdec_no HD.out rfl (HB.out _ (hM.g.own hg9 (Nat.le_refl _))))
    have HDX := Lib.hid (HD3.out h1 hk)
    clear HD1 HD2 HD3 h1
    have hkk := kinds kd hk
    clear hk
    rcases hkk with rfl | rfl | rfl | rfl | rfl | rfl
    · as_aux_lemma =>
      rcases e0 : numR r with ⟨a0, r1⟩
      rcases e1 : numR r1 with ⟨a1, r2⟩
      rcases e2 : numR r2 with ⟨a2, r3⟩
      have z1 : numsR 2 r1 = ([a1, a2], r3) := by simp [numsR, e1, e2]
      rcases e3 : numR r3 with ⟨a3, r4⟩
      rcases e4 : numR r4 with ⟨a4, r5⟩
      rcases e5 : numR r5 with ⟨a5, r6⟩
      have hx : msgR 1 r = (.vote a0 (a1, a2) a3 a4 a5, false, r6) := by simp [msgR, voteR, numsR, e0, e1, e2, e3, e4, e5]
      have her := msgR_err 1 r he1
      rw [hx] at her HDX hlen
      have l1 := len_num e0 hl1
      have H0 := Lib.hid (fun b X hX => tnum_at v q hvq b r hl1 e0 X hX)
      have l3 := len_nums z1 l1
      have H1 := Lib.hid (fun b X hX => tzx_at v q hvq b r1 l1 z1 X hX)
      have l4 := len_num e3 l3
      have H3 := Lib.hid (fun b X hX => tnum_at v q hvq b r3 l3 e3 X hX)
      have l5 := len_num e4 l4
      have H4 := Lib.hid (fun b X hX => tnum_at v q hvq b r4 l4 e4 X hX)
      have l6 := len_num e5 l5
      have H5 := Lib.hid (fun b X hX => tnum_at v q hvq b r5 l5 e5 X hX)
      clear hx e0 e1 e2 e3 e4 e5 z1 l1 l3 l4 l5 l6
      have m0 := hM.v0
      go_wp2_with (fail)
      refine (H0.out _ _ hM.s).mono ?_
      rintro e w3 ⟨rfl, hs1, hg1⟩
      have hX := hM.call n4 hs1 hg1
      clear hM hs1 hg1 H0 m0 k0
      have c1 := BlkAt.cell hX.k (i := 1) rfl
      have f1 := BlkAt.frozen hX.k 1
      go_upto_region 9 with (fail)
      have hM := (hX.set n4 1 (.int .i64 a0))
      simp only [List.set_cons_zero, List.set_cons_succ] at hM
      clear hX c1 f1
      generalize (World.setCell w3 ⟨w1.heap.size, 1, none⟩ (.int .i64 a0)) = w4 at *
      go_wp2_with (fail)
      refine (H1.out _ _ hM.s).mono ?_
      rintro e w5 ⟨rfl, hs1, hg1⟩
      have hX := hM.call n4 hs1 hg1
      clear hM hs1 hg1 H1
      have c2 := BlkAt.cell hX.k (i := 2) rfl
      have f2 := BlkAt.frozen hX.k 2
      have c3 := BlkAt.cell hX.k (i := 3) rfl
      have f3 := BlkAt.frozen hX.k 3
      go_upto_region 10 with (fail)
      have hM := ((hX.set n4 2 (.int .i64 a1)).set n4 3 (.int .i64 a2))
      simp only [List.set_cons_zero, List.set_cons_succ] at hM
      clear hX c2 f2 c3 f3
      generalize (World.setCell (World.setCell w5 ⟨w1.heap.size, 2, none⟩ (.int .i64 a1)) ⟨w1.heap.size, 3, none⟩ (.int .i64 a2)) = w6 at *
      have m0 := hM.v0
      go_wp2_with (fail)
      refine (H3.out _ _ hM.s).mono ?_
      rintro e w7 ⟨rfl, hs1, hg1⟩
      have hX := hM.call n4 hs1 hg1
      clear hM hs1 hg1 H3 m0
      have c4 := BlkAt.cell hX.k (i := 4) rfl
      have f4 := BlkAt.frozen hX.k 4
      go_upto_region 11 with (fail)
      have hM := (hX.set n4 4 (.int .i64 a3))
      simp only [List.set_cons_zero, List.set_cons_succ] at hM
      clear hX c4 f4
      generalize (World.setCell w7 ⟨w1.heap.size, 4, none⟩ (.int .i64 a3)) = w8 at *
      have m0 := hM.v0
      go_wp2_with (fail)
      refine (H4.out _ _ hM.s).mono ?_
      rintro e w9 ⟨rfl, hs1, hg1⟩
      have hX := hM.call n4 hs1 hg1
      clear hM hs1 hg1 H4 m0
      have c8 := BlkAt.cell hX.k (i := 8) rfl
      have f8 := BlkAt.frozen hX.k 8
      go_upto_region 12 with (fail)
      have hM := (hX.set n4 8 (.int .i64 a4))
      simp only [List.set_cons_zero, List.set_cons_succ] at hM
      clear hX c8 f8
      generalize (World.setCell w9 ⟨w1.heap.size, 8, none⟩ (.int .i64 a4)) = w10 at *
      have m0 := hM.v0
      go_wp2_with (fail)
      refine (H5.out _ _ hM.s).mono ?_
      rintro e w11 ⟨rfl, hs1, hg1⟩
      have hX := hM.call n4 hs1 hg1
      clear hM hs1 hg1 H5 m0
      have c9 := BlkAt.cell hX.k (i := 9) rfl
      have f9 := BlkAt.frozen hX.k 9
      go_wp2_with (fail)
      go_meet
      have hM := (hX.set n4 9 (.int .i64 a5))
      simp only [List.set_cons_zero, List.set_cons_succ] at hM
      exact rcut HDX.out rfl hlen her (by first | exact hM | (simp only [Bool.false_or] at hM; exact hM)) rfl
    · as_aux_lemma =>
      rcases e0 : numR r with ⟨a0, r1⟩
      rcases e1 : numR r1 with ⟨a1, r2⟩
      rcases e2 : numR r2 with ⟨a2, r3⟩
      rcases e3 : numR r3 with ⟨a3, r4⟩
      rcases e4 : numR r4 with ⟨a4, r5⟩
      have z3 : numsR 2 r3 = ([a3, a4], r5) := by simp [numsR, e3, e4]
      have hx : msgR 2 r = (.info a0 a1 a2 (a3, a4), false, r5) := by simp [msgR, infoR, numsR, e0, e1, e2, e3, e4]
      have her := msgR_err 2 r he1
      rw [hx] at her HDX hlen
      have l1 := len_num e0 hl1
      have H0 := Lib.hid (fun b X hX => tnum_at v q hvq b r hl1 e0 X hX)
      have l2 := len_num e1 l1
      have H1 := Lib.hid (fun b X hX => tnum_at v q hvq b r1 l1 e1 X hX)
      have l3 := len_num e2 l2
      have H2 := Lib.hid (fun b X hX => tnum_at v q hvq b r2 l2 e2 X hX)
      have l5 := len_nums z3 l3
      have H3 := Lib.hid (fun b X hX => tzx_at v q hvq b r3 l3 z3 X hX)
      clear hx e0 e1 e2 e3 e4 z3 l1 l2 l3 l5
      have m0 := hM.v0
      go_wp2_with (fail)
      refine (H0.out _ _ hM.s).mono ?_
      rintro e w3 ⟨rfl, hs1, hg1⟩
      have hX := hM.call n4 hs1 hg1
      clear hM hs1 hg1 H0 m0 k0
      have c10 := BlkAt.cell hX.k (i := 10) rfl
      have f10 := BlkAt.frozen hX.k 10
      go_upto_region 15 with (fail)
      have hM := (hX.set n4 10 (.int .i64 a0))
      simp only [List.set_cons_zero, List.set_cons_succ] at hM
      clear hX c10 f10
      generalize (World.setCell w3 ⟨w1.heap.size, 10, none⟩ (.int .i64 a0)) = w4 at *
      have m0 := hM.v0
      go_wp2_with (fail)
      refine (H1.out _ _ hM.s).mono ?_
      rintro e w5 ⟨rfl, hs1, hg1⟩
      have hX := hM.call n4 hs1 hg1
      clear hM hs1 hg1 H1 m0
      have c4 := BlkAt.cell hX.k (i := 4) rfl
      have f4 := BlkAt.frozen hX.k 4
      go_upto_region 16 with (fail)
      have hM := (hX.set n4 4 (.int .i64 a1))
      simp only [List.set_cons_zero, List.set_cons_succ] at hM
      clear hX c4 f4
      generalize (World.setCell w5 ⟨w1.heap.size, 4, none⟩ (.int .i64 a1)) = w6 at *
      have m0 := hM.v0
      go_wp2_with (fail)
      refine (H2.out _ _ hM.s).mono ?_
      rintro e w7 ⟨rfl, hs1, hg1⟩
      have hX := hM.call n4 hs1 hg1
      clear hM hs1 hg1 H2 m0
      have c5 := BlkAt.cell hX.k (i := 5) rfl
      have f5 := BlkAt.frozen hX.k 5
      go_upto_region 17 with (fail)
      have hM := (hX.set n4 5 (.int .i64 a2))
      simp only [List.set_cons_zero, List.set_cons_succ] at hM
      clear hX c5 f5
      generalize (World.setCell w7 ⟨w1.heap.size, 5, none⟩ (.int .i64 a2)) = w8 at *
      go_wp2_with (fail)
      refine (H3.out _ _ hM.s).mono ?_
      rintro e w9 ⟨rfl, hs1, hg1⟩
      have hX := hM.call n4 hs1 hg1
      clear hM hs1 hg1 H3
      have c2 := BlkAt.cell hX.k (i := 2) rfl
      have f2 := BlkAt.frozen hX.k 2
      have c3 := BlkAt.cell hX.k (i := 3) rfl
      have f3 := BlkAt.frozen hX.k 3
      go_wp2_with (fail)
      go_meet
      have hM := ((hX.set n4 2 (.int .i64 a3)).set n4 3 (.int .i64 a4))
      simp only [List.set_cons_zero, List.set_cons_succ] at hM
      exact rcut HDX.out rfl hlen her (by first | exact hM | (simp only [Bool.false_or] at hM; exact hM)) rfl
    · as_aux_lemma =>
      rcases e0 : numR r with ⟨a0, r1⟩
      rcases e1 : numR r1 with ⟨a1, r2⟩
      rcases e2 : numR r2 with ⟨a2, r3⟩
      rcases e3 : numR r3 with ⟨a3, r4⟩
      rcases e4 : numR r4 with ⟨a4, r5⟩
      rcases e5 : numR r5 with ⟨a5, r6⟩
      rcases e6 : textR r6 with ⟨s6, r7⟩
      rcases e7 : numR r7 with ⟨a7, r8⟩
      rcases e8 : (if badNum a7 = true then ([], r8) else entsR a7.toNat [] r8) with ⟨L, r9⟩
      have z2 : numsR 2 r2 = ([a2, a3], r4) := by simp [numsR, e2, e3]
      have z4 : numsR 2 r4 = ([a4, a5], r6) := by simp [numsR, e4, e5]
      have hx : msgR 3 r = (.sync a0 a1 (a2, a3) (a4, a5) s6 L, badNum a7, r9) := by simp [msgR, syncR, syncER, syncNR, numsR, e0, e1, e2, e3, e4, e5, e6, e7, e8]
      have her := msgR_err 3 r he1
      rw [hx] at her HDX hlen
      have t1 : r1.e ≠ 12 := by have := numR_err r he1; rw [e0] at this; exact this
      have t2 : r2.e ≠ 12 := by have := numR_err r1 t1; rw [e1] at this; exact this
      have t4 : r4.e ≠ 12 := by have := numsR_err 2 r2 t2; rw [z2] at this; exact this
      have t6 : r6.e ≠ 12 := by have := numsR_err 2 r4 t4; rw [z4] at this; exact this
      have t7 : r7.e ≠ 12 := by have := textR_err r6 t6; rw [e6] at this; exact this
      have t8 : r8.e ≠ 12 := by have := numR_err r7 t7; rw [e7] at this; exact this
      have l1 := len_num e0 hl1
      have H0 := Lib.hid (fun b X hX => tnum_at v q hvq b r hl1 e0 X hX)
      have l2 := len_num e1 l1
      have H1 := Lib.hid (fun b X hX => tnum_at v q hvq b r1 l1 e1 X hX)
      have l4 := len_nums z2 l2
      have H2 := Lib.hid (fun b X hX => tzx_at v q hvq b r2 l2 z2 X hX)
      have l6 := len_nums z4 l4
      have H4 := Lib.hid (fun b X hX => tzx_at v q hvq b r4 l4 z4 X hX)
      have l7 := len_text e6 l6
      have H6 := Lib.hid (fun b X hX => ttext_at v q hvq b r6 l6 e6 X hX)
      have l8 := len_num e7 l7
      have H7 := Lib.hid (fun b X hX => tnum_at v q hvq b r7 l7 e7 X hX)
      have HE := Lib.hid (fun r b hl X hX => tent_at v q hvq b r hl X hX)
      have HL := Lib.hid e8
      clear hx e0 e1 e2 e3 e4 e5 e6 e7 e8 z2 z4 l1 l2 l4 l6 l7 t1 t2 t4 t6 t7
      have m0 := hM.v0
      go_wp2_with (fail)
      refine (H0.out _ _ hM.s).mono ?_
      rintro e w3 ⟨rfl, hs1, hg1⟩
      have hX := hM.call n4 hs1 hg1
      clear hM hs1 hg1 H0 m0 k0
      have c10 := BlkAt.cell hX.k (i := 10) rfl
      have f10 := BlkAt.frozen hX.k 10
      go_upto_region 20 with (fail)
      have hM := (hX.set n4 10 (.int .i64 a0))
      simp only [List.set_cons_zero, List.set_cons_succ] at hM
      clear hX c10 f10
      generalize (World.setCell w3 ⟨w1.heap.size, 10, none⟩ (.int .i64 a0)) = w4 at *
      have m0 := hM.v0
      go_wp2_with (fail)
      refine (H1.out _ _ hM.s).mono ?_
      rintro e w5 ⟨rfl, hs1, hg1⟩
      have hX := hM.call n4 hs1 hg1
      clear hM hs1 hg1 H1 m0
      have c4 := BlkAt.cell hX.k (i := 4) rfl
      have f4 := BlkAt.frozen hX.k 4
      go_upto_region 21 with (fail)
      have hM := (hX.set n4 4 (.int .i64 a1))
      simp only [List.set_cons_zero, List.set_cons_succ] at hM
      clear hX c4 f4
      generalize (World.setCell w5 ⟨w1.heap.size, 4, none⟩ (.int .i64 a1)) = w6 at *
      go_wp2_with (fail)
      refine (H2.out _ _ hM.s).mono ?_
      rintro e w7 ⟨rfl, hs1, hg1⟩
      have hX := hM.call n4 hs1 hg1
      clear hM hs1 hg1 H2
      have c6 := BlkAt.cell hX.k (i := 6) rfl
      have f6 := BlkAt.frozen hX.k 6
      have c7 := BlkAt.cell hX.k (i := 7) rfl
      have f7 := BlkAt.frozen hX.k 7
      go_upto_region 22 with (fail)
      have hM := ((hX.set n4 6 (.int .i64 a2)).set n4 7 (.int .i64 a3))
      simp only [List.set_cons_zero, List.set_cons_succ] at hM
      clear hX c6 f6 c7 f7
      generalize (World.setCell (World.setCell w7 ⟨w1.heap.size, 6, none⟩ (.int .i64 a2)) ⟨w1.heap.size, 7, none⟩ (.int .i64 a3)) = w8 at *
      go_wp2_with (fail)
      refine (H4.out _ _ hM.s).mono ?_
      rintro e w9 ⟨rfl, hs1, hg1⟩
      have hX := hM.call n4 hs1 hg1
      clear hM hs1 hg1 H4
      have c2 := BlkAt.cell hX.k (i := 2) rfl
      have f2 := BlkAt.frozen hX.k 2
      have c3 := BlkAt.cell hX.k (i := 3) rfl
      have f3 := BlkAt.frozen hX.k 3
      go_upto_region 23 with (fail)
      have hM := ((hX.set n4 2 (.int .i64 a4)).set n4 3 (.int .i64 a5))
      simp only [List.set_cons_zero, List.set_cons_succ] at hM
      clear hX c2 f2 c3 f3
      generalize (World.setCell (World.setCell w9 ⟨w1.heap.size, 2, none⟩ (.int .i64 a4)) ⟨w1.heap.size, 3, none⟩ (.int .i64 a5)) = w10 at *
      have m0 := hM.v0
      go_wp2_with (fail)
      refine (H6.out _ _ hM.s).mono ?_
      rintro e w11 ⟨rfl, hs1, hg1⟩
      have hX := hM.call n4 hs1 hg1
      clear hM hs1 hg1 H6 m0
      have c11 := BlkAt.cell hX.k (i := 11) rfl
      have f11 := BlkAt.frozen hX.k 11
      go_upto_region 24 with (fail)
      have hM := (hX.set n4 11 (.string (bs s6)))
      simp only [List.set_cons_zero, List.set_cons_succ] at hM
      clear hX c11 f11
      generalize (World.setCell w11 ⟨w1.heap.size, 11, none⟩ (.string (bs s6))) = w12 at *
      have m0 := hM.v0
      go_wp2_with (fail)
      refine (H7.out _ _ hM.s).mono ?_
      rintro e w13 ⟨rfl, hs1, hg1⟩
      have hX := hM.call n4 hs1 hg1
      clear hM hs1 hg1 H7 m0
      have c1 := hX.v1
      have f1 := hX.vf
      have hM := hX.setBad n4 (badNum a7)
      generalize hwy : (World.setCell w13 ⟨v, 1, none⟩ (.bool (badNum a7))) = w14 at *
      have HWW := Lib.hid hwy
      clear hX hwy
      by_cases hbn : badNum a7 = true
      · have HL2 : Hid (([], r8) = (L, r9)) := by have := HL.out; rw [if_pos hbn] at this; exact this
        obtain ⟨rfl, rfl⟩ : L = [] ∧ r9 = r8 := by have := HL2.out; simp only [Prod.mk.injEq] at this; exact ⟨this.1.symm, this.2.symm⟩
        rw [hbn] at HWW hM HDX
        have HB2 := Lib.hid hbn
        clear hbn HL HL2
        by_cases hn : a7 < 0
        all_goals
          have tn : decide (0 < a7) = !decide (a7 < 0) := by have := HB2.out; unfold badNum at this; simp only [Bool.or_eq_true, decide_eq_true_eq] at this; by_cases h0 : a7 < 0 <;> simp [h0] <;> omega
          have tm : ¬ a7 < 0 → 1000 < a7 := by have := HB2.out; unfold badNum at this; simp only [Bool.or_eq_true, decide_eq_true_eq] at this; omega
          first | (have tn1 : a7 < 0 := hn) | (have tn2 : 1000 < a7 := tm hn)
          clear tn tm hn
          go_upto_region 26 with (fail)
          rw [HWW.out]
          have v1 := hM.v1
          go_wp2_with (fail)
          go_loopw [7] (fun vi wr => vi = .int .i64 0 ∧ wr = w14) (fun _ _ => 0)
          case atStart => exact ⟨rfl, rfl⟩
          case round =>
            obtain ⟨rfl, rfl⟩ := hrel
            go_wp2_with (fail)
            go_meet
            exact rcut HDX.out rfl hlen her hM rfl
      · have hbn := Bool.eq_false_iff.2 hbn
        have HL2 : Hid (entsR a7.toNat [] r8 = (L, r9)) := by have := HL.out; rw [hbn] at this; exact this
        rw [hbn] at HWW hM HDX
        have hn0 : 0 ≤ a7 := by unfold badNum at hbn; simp only [Bool.or_eq_false_iff, decide_eq_false_iff_not] at hbn; omega
        have hn1 : a7 ≤ 1000 := by unfold badNum at hbn; simp only [Bool.or_eq_false_iff, decide_eq_false_iff_not] at hbn; omega
        clear hbn HL
        obtain ⟨n, rfl⟩ : ∃ n : Nat, a7 = (n : Int) := ⟨a7.toNat, by omega⟩
        simp only [Int.toNat_natCast] at HL2
        have tn : decide ((n : Int) < 0) = false := decide_eq_false (by omega)
        have tm : decide ((1000 : Int) < (n : Int)) = false := decide_eq_false (by omega)
        go_upto_region 26 with (fail)
        rw [HWW.out]
        clear HWW c1 f1 tn tm
        obtain ⟨N, hN⟩ : ∃ N, N = w14.heap.size := ⟨_, rfl⟩
        have hkN : w1.heap.size < N := by rw [hN]; exact BlkAt.lt hM.k
        have hjN : w.heap.size < N := by rw [hN]; exact BlkAt.lt hM.j
        have hvN : v < N := by rw [hN]; exact BlkAt.lt hM.s.v
        have hqN : q < N := by rw [hN]; exact RdAt.lt hM.s.r
        have hNw : N ≤ w14.heap.size := Nat.le_of_eq hN
        clear hN
        have hwN : w.heap.size ≤ N := Nat.le_of_lt hjN
        go_wp2_with (fail)
        go_loopw [7] (fun vi wr => ∃ (i : Nat) (D : List Ent) (rr : Rd) (u : Value), vi = .int .i64 (i : Int) ∧ i ≤ n ∧ D.length = i ∧ Mid TkT RefRd 51 v q w1.heap.size w.heap.size false rr [.int .i64 3, .int .i64 0, .int .i64 a4, .int .i64 a5, .int .i64 a1, .int .i64 0, .int .i64 a2, .int .i64 a3, .int .i64 0, .int .i64 0, .int .i64 a0, .string (bs s6), u, .bool false, .int .i64 0, .int .i64 0, .int .i64 0] zs17 w wr ∧ wr.ownsRow N 72 3 u D.length (entRow D) ∧ (∀ x ∈ D, x.ok) ∧ rr.l.length ≤ 9223372036854775807 ∧ rr.e ≠ 12 ∧ N ≤ wr.heap.size ∧ entsR n [] r8 = entsR (n - i) D rr) (fun vi _ => n - (intOf vi).toNat)
        case atStart => exact ⟨0, [], r8, _, rfl, Nat.zero_le _, rfl, hM, World.ownsRow_nil _ _ _ _, by simp, l8, t8, hNw, rfl⟩
        case round =>
          clear hM hNw t8 l8
          obtain ⟨i, D', rr, u, rfl, hin, hDi, hM, hown, hok, hrl, hr12, hNr, hts⟩ := hrel
          have HTS := Lib.hid hts
          have HDl := Lib.hid hDi
          have hD1 : D'.length ≤ 1000 := by omega
          clear hts hDi
          have v1 := hM.v1
          have v0 := hM.v0
          have q1 := RdAt.c1 hM.s.r
          have hex : (i < n ∧ rr.e = 0) ∨ ((¬ i < n ∨ (i < n ∧ rr.e ≠ 0)) ∧ Hid ((L, r9) = (D', rr))) := by
            by_cases hlt : i < n
            · by_cases he : rr.e = 0
              · exact .inl ⟨hlt, he⟩
              · exact .inr ⟨.inr ⟨hlt, he⟩, by show _ = _; rw [← HL2.out, HTS.out, entsR_stop _ _ _ he]⟩
            · exact .inr ⟨.inl hlt, by show _ = _; rw [← HL2.out, HTS.out, show n - i = 0 by omega]; rfl⟩
          rcases hex with ⟨hlt, he⟩ | ⟨hno, HX⟩
          · have qe : ((rr.e : Int) == 0) = true := by rw [beq_iff_eq]; omega
            have HG := Lib.hid (entsR_go (n - i - 1) D' rr he)
            have HEN := Lib.hid (fun X hX => HE.out rr false hrl X hX)
            have hok2 := entR_fit rr hrl
            have hrl2 := Nat.le_trans (entR_le rr) hrl
            have hr122 := entR_err rr hr12
            have HR : Hid (entsR n [] r8 = entsR (n - (i + 1)) (D' ++ [(entR rr).1]) (entR rr).2) := by show _ = _; rw [HTS.out, show n - i = n - i - 1 + 1 by omega, HG.out, show n - i - 1 = n - (i + 1) by omega]
            clear HG HTS HE HL2 he hrl hr12
            unfold entV at HEN
            generalize (entR rr).1 = x at *
            generalize (entR rr).2 = rr2 at *
            go_wp2_with (fail)
            have y7 := BlkAt.cell hM.k (i := 12) rfl
            have g7 := BlkAt.frozen hM.k 12
            have hob := own_base hown
            have hMd := hM.grew ((Below.refl _ wr).drew)
            go_region_law (first | (go_simp; go_at_call 67; (with_reducible refine (HEN.out _ (by first | exact hM.s | exact hM.s.drew)).mono ?_); rintro e w2b ⟨rfl, hs2, hg2⟩; have hown2 := own_gr2 hown.drew hg2 hqN hvN; have hs2' : wr.heap.size ≤ w2b.heap.size := hg2.size; have y7b := hg2.cell y7 n4.kq n4.kv; have y7d := fun o => Grew.cell (alloc_below w2b o) y7b) | (refine step_append_own rfl _ _ 49 (by rfl) N 72 i5 (.agg #[.int .i64 0, .int .i64 0, .string ⟨#[]⟩]) 3 32 Try.underlying49 hi hz0 hz1 hz2 rfl (by decide) _ _ _ (by rfl) (hown2.alloc _) ⟨w2b.heap.size, 0, none⟩ 1 1 (entRow [x]) (by rfl) rfl (new_cells w2b _ 72) (entRow_one _) (by unfold maxLen; omega) (by omega) (by simp; omega) ?_; intro u3 w3 hown3 hgr3 _; obtain ⟨a3, c3, rfl⟩ := own_slice hown3; have hX := ((hMd.call n4 hs2 hg2).grew (alloc_below w2b _)).row n4 hgr3 hob hkN hjN hwN hvN hqN; have y7c := BlkAt.cell hX.k (i := 12) rfl; have g7c := BlkAt.frozen hX.k 12))
            all_goals
              have hM3 := hX.set n4 12 (.slice a3 (D'.length + 1) c3)
              simp only [List.set_cons_zero, List.set_cons_succ] at hM3
              have hown4 : (w3.setCell ⟨w1.heap.size, 12, none⟩ (.slice a3 (D'.length + 1) c3)).ownsRow N 72 3 (.slice a3 (D'.length + 1) c3) (D' ++ [x]).length (entRow (D' ++ [x])) := by
                have h0 := own_grown hown3 (grown_set w3 w1.heap.size 12 (.slice a3 (D'.length + 1) c3)) (fun e => by have := own_base hown3 _ e; omega)
                rw [entRow_append, List.length_append]; exact h0
              have hN4 : N ≤ (w3.setCell ⟨w1.heap.size, 12, none⟩ (.slice a3 (D'.length + 1) c3)).heap.size := by
                have h1 := hgr3.size
                have h2 := (grown_set w3 w1.heap.size 12 (.slice a3 (D'.length + 1) c3)).size
                have h3 : w2b.heap.size ≤ (w2b.alloc (.cells (entRow [x]).toArray 72)).heap.size := by simp
                have h4 : (w2b.alloc (.cells (entRow [x]).toArray 72)).heap.size ≤ w3.heap.size := h1
                omega
              have hok4 : ∀ y ∈ D' ++ [x], y.ok := by
                intro y hy
                rcases List.mem_append.1 hy with hy | hy
                · exact hok y hy
                · simp only [List.mem_cons, List.not_mem_nil, or_false] at hy
                  rw [hy]; exact hok2
              clear hX y7c g7c hown hgr3 hown3 hs2 hg2 hM hMd y7 g7 y7b y7d hown2 v1 v0 q1 qe
              go_wp2_with (fail)
              go_roundw
              case rel => exact ⟨i + 1, D' ++ [x], rr2, _, by go_num, by omega, by simp [HDl.out], hM3, hown4, hok4, hrl2, hr122, hN4, HR.out⟩
              case measure => simp [intOf]; omega
          · obtain ⟨rfl, rfl⟩ : L = D' ∧ r9 = rr := by have := HX.out; simp only [Prod.mk.injEq] at this; exact this
            obtain ⟨_, a, cap, rfl, hE⟩ := own_ents hown hok
            have hob := own_base hown
            have HF : Hid (RCut D v q w1.heap.size w.heap.size w wr) := ⟨_, _, r9, a, cap, HDX.out, rfl, hlen, her, hM, hE, fun hf => (by cases hf), fun p hp => by have := hob p.block (by rw [hp]; rfl); omega⟩
            clear HX HTS HE HL2 hown hob
            rcases hno with hlt | ⟨hlt, he⟩
            · go_wp2_with (fail)
              go_meet
              exact HF.out
            · have qe : ((r9.e : Int) == 0) = false := beq_eq_false_iff_ne.2 (by omega)
              clear he
              go_wp2_with (fail)
              go_meet
              exact HF.out
    · as_aux_lemma =>
      have her := msgR_err 4 r he1
      have HDX : Hid (D = restR (.prop (entR r).1, false, (entR r).2)) := HDX
      have her : (entR r).2.e ≠ 12 := her
      have hlen : lenMv (.prop (entR r).1) := trivial
      have HC := Lib.hid (fun X hX => tent_at v q hvq false r hl1 X hX)
      have hok := entR_fit r hl1
      unfold entV at HC
      generalize (entR r).1 = x at *
      generalize (entR r).2 = r2 at *
      go_wp2_with (fail)
      refine (HC.out _ hM.s).mono ?_
      rintro e w3 ⟨rfl, hs1, hg1⟩
      have hC := hM.call n4 hs1 hg1
      have hj3 : w.heap.size < w3.heap.size := BlkAt.lt hC.j
      have hX := hC.grew (alloc_below w3 (.cells #[.int .i64 x.e, .int .i64 x.c, .string (bs x.b)] 72))
      have hM2 := hC.set n4 12 (.slice (some ⟨w3.heap.size, 0, none⟩) 1 1)
      have hss : (w3.setCell ⟨w1.heap.size, 12, none⟩ (.slice (some ⟨w3.heap.size, 0, none⟩) 1 1)).heap.size = w3.heap.size := by simp [World.setCell]
      have hE0 := ents_one (w3.setCell ⟨w1.heap.size, 12, none⟩ (.slice (some ⟨w3.heap.size, 0, none⟩) 1 1)) x hok 72
      rw [hss] at hE0
      have hM4 := Lib.hid (hM2.grew (alloc_below _ (.cells #[.int .i64 x.e, .int .i64 x.c, .string (bs x.b)] 72)))
      have HE0 := Lib.hid hE0
      have hk3 : w1.heap.size < w3.heap.size := BlkAt.lt hC.k
      have HEa := Lib.hid (ents_kept (ents_one w3 x hok 72) (grown_set _ w1.heap.size 12 (.slice (some ⟨w3.heap.size, 0, none⟩) 1 1)) (fun p hp => by have := Option.some.inj hp; subst this; exact Nat.ne_of_gt hk3))
      have HMa := Lib.hid (hX.set n4 12 (.slice (some ⟨w3.heap.size, 0, none⟩) 1 1))
      clear hM hs1 hg1 k0 hM2 hss hE0 hC
      have c12 := BlkAt.cell hX.k (i := 12) rfl
      have f12 := BlkAt.frozen hX.k 12
      go_wp2_with (fail)
      go_meet
      have hM := hM4.out
      simp only [List.set_cons_zero, List.set_cons_succ] at hM
      have hfr : ∀ p : Addr, some (⟨w3.heap.size, 0, none⟩ : Addr) = some p → p.block ≠ w.heap.size := fun p hp => by have := Option.some.inj hp; subst this; exact Nat.ne_of_gt hj3
      first
        | exact ⟨.prop x, false, r2, some ⟨w3.heap.size, 0, none⟩, 1, HDX.out, rfl, hlen, her, hM, HE0.out, fun hf => (by cases hf), hfr⟩
        | exact ⟨.prop x, false, r2, some ⟨w3.heap.size, 0, none⟩, 1, HDX.out, rfl, hlen, her, HMa.out, HEa.out, fun hf => (by cases hf), hfr⟩
    · as_aux_lemma =>
      rcases e0 : numR r with ⟨a0, r1⟩
      rcases e1 : numR r1 with ⟨a1, r2⟩
      rcases e2 : numR r2 with ⟨a2, r3⟩
      have z1 : numsR 2 r1 = ([a1, a2], r3) := by simp [numsR, e1, e2]
      have hx : msgR 5 r = (.ack (decide (a0 = 1)) (a1, a2), badFlag a0, r3) := by simp [msgR, ackR, numsR, e0, e1, e2]
      have her := msgR_err 5 r he1
      rw [hx] at her HDX hlen
      have l1 := len_num e0 hl1
      have H0 := Lib.hid (fun b X hX => tflag_at v q hvq b r hl1 e0 X hX)
      have l3 := len_nums z1 l1
      have H1 := Lib.hid (fun b X hX => tzx_at v q hvq b r1 l1 z1 X hX)
      clear hx e0 e1 e2 z1 l1 l3
      go_wp2_with (fail)
      refine (H0.out _ _ hM.s).mono ?_
      rintro e w3 ⟨rfl, hs1, hg1⟩
      have hX := hM.call n4 hs1 hg1
      clear hM hs1 hg1 H0 k0
      have c13 := BlkAt.cell hX.k (i := 13) rfl
      have f13 := BlkAt.frozen hX.k 13
      go_upto_region 34 with (fail)
      have hM := (hX.set n4 13 (.bool (decide (a0 = 1))))
      simp only [List.set_cons_zero, List.set_cons_succ] at hM
      clear hX c13 f13
      generalize (World.setCell w3 ⟨w1.heap.size, 13, none⟩ (.bool (decide (a0 = 1)))) = w4 at *
      go_wp2_with (fail)
      refine (H1.out _ _ hM.s).mono ?_
      rintro e w5 ⟨rfl, hs1, hg1⟩
      have hX := hM.call n4 hs1 hg1
      clear hM hs1 hg1 H1
      have c2 := BlkAt.cell hX.k (i := 2) rfl
      have f2 := BlkAt.frozen hX.k 2
      have c3 := BlkAt.cell hX.k (i := 3) rfl
      have f3 := BlkAt.frozen hX.k 3
      go_wp2_with (fail)
      go_meet
      have hM := ((hX.set n4 2 (.int .i64 a1)).set n4 3 (.int .i64 a2))
      simp only [List.set_cons_zero, List.set_cons_succ] at hM
      exact rcut HDX.out rfl hlen her (by first | exact hM | (simp only [Bool.false_or] at hM; exact hM)) rfl
    · as_aux_lemma =>
      rcases e0 : numR r with ⟨a0, r1⟩
      rcases e1 : numR r1 with ⟨a1, r2⟩
      rcases e2 : numR r2 with ⟨a2, r3⟩
      rcases e3 : numR r3 with ⟨a3, r4⟩
      rcases e4 : textR r4 with ⟨s4, r5⟩
      have hx : msgR 6 r = (.ask a0 a1 a2 (decide (a3 = 1)) s4, badFlag a3, r5) := by simp [msgR, askR, numsR, e0, e1, e2, e3, e4]
      have her := msgR_err 6 r he1
      rw [hx] at her HDX hlen
      have l1 := len_num e0 hl1
      have H0 := Lib.hid (fun b X hX => tnum_at v q hvq b r hl1 e0 X hX)
      have l2 := len_num e1 l1
      have H1 := Lib.hid (fun b X hX => tnum_at v q hvq b r1 l1 e1 X hX)
      have l3 := len_num e2 l2
      have H2 := Lib.hid (fun b X hX => tnum_at v q hvq b r2 l2 e2 X hX)
      have l4 := len_num e3 l3
      have H3 := Lib.hid (fun b X hX => tflag_at v q hvq b r3 l3 e3 X hX)
      have l5 := len_text e4 l4
      have H4 := Lib.hid (fun b X hX => ttext_at v q hvq b r4 l4 e4 X hX)
      clear hx e0 e1 e2 e3 e4  l1 l2 l3 l4 l5
      have m0 := hM.v0
      go_wp2_with (fail)
      refine (H0.out _ _ hM.s).mono ?_
      rintro e w3 ⟨rfl, hs1, hg1⟩
      have hX := hM.call n4 hs1 hg1
      clear hM hs1 hg1 H0 m0 k0
      have c14 := BlkAt.cell hX.k (i := 14) rfl
      have f14 := BlkAt.frozen hX.k 14
      go_upto_region 37 with (fail)
      have hM := (hX.set n4 14 (.int .i64 a0))
      simp only [List.set_cons_zero, List.set_cons_succ] at hM
      clear hX c14 f14
      generalize (World.setCell w3 ⟨w1.heap.size, 14, none⟩ (.int .i64 a0)) = w4 at *
      have m0 := hM.v0
      go_wp2_with (fail)
      refine (H1.out _ _ hM.s).mono ?_
      rintro e w5 ⟨rfl, hs1, hg1⟩
      have hX := hM.call n4 hs1 hg1
      clear hM hs1 hg1 H1 m0
      have c15 := BlkAt.cell hX.k (i := 15) rfl
      have f15 := BlkAt.frozen hX.k 15
      go_upto_region 38 with (fail)
      have hM := (hX.set n4 15 (.int .i64 a1))
      simp only [List.set_cons_zero, List.set_cons_succ] at hM
      clear hX c15 f15
      generalize (World.setCell w5 ⟨w1.heap.size, 15, none⟩ (.int .i64 a1)) = w6 at *
      have m0 := hM.v0
      go_wp2_with (fail)
      refine (H2.out _ _ hM.s).mono ?_
      rintro e w7 ⟨rfl, hs1, hg1⟩
      have hX := hM.call n4 hs1 hg1
      clear hM hs1 hg1 H2 m0
      have c16 := BlkAt.cell hX.k (i := 16) rfl
      have f16 := BlkAt.frozen hX.k 16
      go_upto_region 39 with (fail)
      have hM := (hX.set n4 16 (.int .i64 a2))
      simp only [List.set_cons_zero, List.set_cons_succ] at hM
      clear hX c16 f16
      generalize (World.setCell w7 ⟨w1.heap.size, 16, none⟩ (.int .i64 a2)) = w8 at *
      go_wp2_with (fail)
      refine (H3.out _ _ hM.s).mono ?_
      rintro e w9 ⟨rfl, hs1, hg1⟩
      have hX := hM.call n4 hs1 hg1
      clear hM hs1 hg1 H3
      have c13 := BlkAt.cell hX.k (i := 13) rfl
      have f13 := BlkAt.frozen hX.k 13
      go_upto_region 40 with (fail)
      have hM := (hX.set n4 13 (.bool (decide (a3 = 1))))
      simp only [List.set_cons_zero, List.set_cons_succ] at hM
      clear hX c13 f13
      generalize (World.setCell w9 ⟨w1.heap.size, 13, none⟩ (.bool (decide (a3 = 1)))) = w10 at *
      have m0 := hM.v0
      go_wp2_with (fail)
      refine (H4.out _ _ hM.s).mono ?_
      rintro e w11 ⟨rfl, hs1, hg1⟩
      have hX := hM.call n4 hs1 hg1
      clear hM hs1 hg1 H4 m0
      have c11 := BlkAt.cell hX.k (i := 11) rfl
      have f11 := BlkAt.frozen hX.k 11
      go_wp2_with (fail)
      go_meet
      have hM := (hX.set n4 11 (.string (bs s4)))
      simp only [List.set_cons_zero, List.set_cons_succ] at hM
      exact rcut HDX.out rfl hlen her (by first | exact hM | (simp only [Bool.false_or] at hM; exact hM)) rfl
  case rest =>
    clear hM k0 HD1 HD2 HD3 h1 HNUM
    unfold RCut at hcut
    obtain ⟨m, bad, rr, a, cap, HDX', him, hlm, _, hM, hE, hfl, hfr⟩ := hcut
    have HDX := Lib.hid HDX'
    have HRI := Lib.hid (fun X hX => refRight_all m a cap X him hX hfl hlm)
    generalize hps : plM m = pm at *
    obtain ⟨ty, ld, ⟨z1, z2⟩, ep, own, ⟨f1, f2⟩, rnd, st, kd2, body, ents, flag, node, cli, seq⟩ := pm
    have HPS := Lib.hid hps
    simp only at hE
    unfold msgV at HRI
    unfold msgCells at hM HRI
    simp only at hM HRI
    clear hps HDX' hlm him hfl hlen HEN
    have qe : ((rr.e : Int) == 0) = decide (rr.e = 0) := by by_cases h : rr.e = 0 <;> simp [h]
    have qn : ((rr.e : Int) != 0) = !decide (rr.e = 0) := by by_cases h : rr.e = 0 <;> simp [h]
    have q1 := RdAt.c1 hM.s.r
    have m0 := hM.v0
    by_cases h2 : rr.e = 0
    case neg =>
      as_aux_lemma =>
      rw [decide_eq_false h2] at qe qn
      have HDY := Lib.hid (HDX.out.trans (rest_e m bad rr h2))
      clear HDX HRI h2
      go_upto_region 42 with (fail)
      have hex := Grew.all wc
      refine wp_region_grew (by kernel_rfl) (by kernel_rfl) ?_
      repeat (first | go_big_quiet_skip | (go_big_quiet_want; first | (refine quiet_load_cell _ _ rfl ⟨v, 0, none⟩ rfl _ _ Try.underlying41 rfl (fun W hW => Grew.cell hW m0) ?_; simp only [Act.put, List.setIfInBounds_toArray, List.set_cons_succ, List.set_cons_zero]; go_big_quiet_on) | (refine quiet_load_cell _ _ rfl ⟨q, 1, none⟩ rfl _ _ Try.underlying34 rfl (fun W hW => Grew.cell hW q1) ?_; simp only [Act.put, List.setIfInBounds_toArray, List.set_cons_succ, List.set_cons_zero]; go_big_quiet_on) | (refine quiet_store_same _ _ _ rfl w.heap.size 51 zs17 (by rfl) (by rfl) (fun W hW => BlkAt.grew hM.j hW) infoMsg (msgCells_one _ _ _) ?_; simp only [Act.put]; go_big_quiet_on) | (go_big_quiet_op; go_big_quiet_on)))
      refine wpQuiet_nil ?_
      intro w3 hw3
      clear hex
      have hM3 := hM.grew hw3
      have hld := run_load_blk (P := Try.prog) hM3.j _ Try.underlying51 rfl infoMsg
      go_wp2
      exact bodyPost_ret (v := .tuple #[msgV zeroM none 0, .int .i64 (rr.e : Int)]) (results_cell2 Try.results48 _ _ _ ⟨w.heap.size, 0, none⟩ _ _ (by rfl) (by rfl) hld) rfl (rdec_no HDY.out rfl (HB.out _ hM3.g))
    rw [decide_eq_true h2] at qe qn
    have v1 := hM.v1
    have HRM := Lib.hid (fun k hl => rest_m m bad rr h2 k hl)
    have HRO := Lib.hid (fun k hl => rest_ok m bad rr h2 k hl)
    have HRB := Lib.hid (fun k => rest_b m bad rr h2 k)
    have HE2 := Lib.hid h2
    generalize restR (m, bad, rr) = RR at *
    generalize rightMv m = R at *
    clear h2
    cases bad
    case true =>
      as_aux_lemma =>
      have HDY := Lib.hid (HDX.out.trans (HRB.out rfl))
      clear HDX HRI HRB HRM HRO
      go_wp2_with (refine wpList_store_blk (by rfl) 51 _ _ (by rfl) w.heap.size 51 zs17 zs17 (by rfl) (by rfl) hM.j rfl infoMsg (msgCells_one _ _ _) ?_)
      intro w9 hS9 hg9
      have hld := run_load_blk (P := Try.prog) hS9 _ Try.underlying51 rfl infoMsg
      go_wp2
      exact bodyPost_ret (v := .tuple #[msgV zeroM none 0, .int .i64 11]) (results_cell2 Try.results48 _ _ _ ⟨w.heap.size, 0, none⟩ _ _ (by rfl) (by rfl) hld) rfl (rdec_no HDY.out rfl (HB.out _ (hM.g.own hg9 (Nat.le_refl _))))
    have y0 := BlkAt.cell hM.k (i := 0) rfl
    have y1 := BlkAt.cell hM.k (i := 1) rfl
    have y2 := BlkAt.cell hM.k (i := 2) rfl
    have y3 := BlkAt.cell hM.k (i := 3) rfl
    have y4 := BlkAt.cell hM.k (i := 4) rfl
    have y5 := BlkAt.cell hM.k (i := 5) rfl
    have y6 := BlkAt.cell hM.k (i := 6) rfl
    have y7 := BlkAt.cell hM.k (i := 7) rfl
    have y8 := BlkAt.cell hM.k (i := 8) rfl
    have y9 := BlkAt.cell hM.k (i := 9) rfl
    have y10 := BlkAt.cell hM.k (i := 10) rfl
    have y11 := BlkAt.cell hM.k (i := 11) rfl
    have y12 := BlkAt.cell hM.k (i := 12) rfl
    have y13 := BlkAt.cell hM.k (i := 13) rfl
    have y14 := BlkAt.cell hM.k (i := 14) rfl
    have y15 := BlkAt.cell hM.k (i := 15) rfl
    have y16 := BlkAt.cell hM.k (i := 16) rfl
    go_wp2_with (fail)
    refine (HRI.out _ hE).mono ?_
    rintro e w5 ⟨rfl, hb5⟩
    have hM5 := hM.grew hb5
    have hE5 := hE.grew hb5
    clear hM hE hb5 HRI q1 m0 v1 y0 y1 y2 y3 y4 y5 y6 y7 y8 y9 y10 y11 y12 y13 y14 y15 y16
    cases R
    case false =>
      as_aux_lemma =>
      have HDY := Lib.hid (HDX.out.trans (HRB.out rfl))
      clear HDX HRB HRM HRO
      go_wp2_with (refine wpList_store_blk (by rfl) 51 _ _ (by rfl) w.heap.size 51 zs17 zs17 (by rfl) (by rfl) hM5.j rfl infoMsg (msgCells_one _ _ _) ?_)
      intro w9 hS9 hg9
      have hld := run_load_blk (P := Try.prog) hS9 _ Try.underlying51 rfl infoMsg
      go_wp2
      exact bodyPost_ret (v := .tuple #[msgV zeroM none 0, .int .i64 11]) (results_cell2 Try.results48 _ _ _ ⟨w.heap.size, 0, none⟩ _ _ (by rfl) (by rfl) hld) rfl (rdec_no HDY.out rfl (HB.out _ (hM5.g.own hg9 (Nat.le_refl _))))
    have m0 := hM5.v0
    have HEN2 := Lib.hid (refEnd_any q rr w5 hM5.s.r)
    by_cases h3 : rr.l = []
    · as_aux_lemma =>
      have HDY := Lib.hid (HDX.out.trans (HRO.out rfl h3))
      have HEb := Lib.hid (endR_no rr (fun hh => hh.2 h3))
      clear HDX HRB HRM HRO h3
      go_wp2_with (fail)
      refine HEN2.out.mono ?_
      rintro e w6 ⟨rfl, rfl⟩
      rw [HEb.out, HE2.out]
      have y0 := BlkAt.cell hM5.k (i := 0) rfl
      have y1 := BlkAt.cell hM5.k (i := 1) rfl
      have y2 := BlkAt.cell hM5.k (i := 2) rfl
      have y3 := BlkAt.cell hM5.k (i := 3) rfl
      have y4 := BlkAt.cell hM5.k (i := 4) rfl
      have y5 := BlkAt.cell hM5.k (i := 5) rfl
      have y6 := BlkAt.cell hM5.k (i := 6) rfl
      have y7 := BlkAt.cell hM5.k (i := 7) rfl
      have y8 := BlkAt.cell hM5.k (i := 8) rfl
      have y9 := BlkAt.cell hM5.k (i := 9) rfl
      have y10 := BlkAt.cell hM5.k (i := 10) rfl
      have y11 := BlkAt.cell hM5.k (i := 11) rfl
      have y12 := BlkAt.cell hM5.k (i := 12) rfl
      have y13 := BlkAt.cell hM5.k (i := 13) rfl
      have y14 := BlkAt.cell hM5.k (i := 14) rfl
      have y15 := BlkAt.cell hM5.k (i := 15) rfl
      have y16 := BlkAt.cell hM5.k (i := 16) rfl
      go_wp2_with (refine wpList_store_blk (by rfl) 51 _ _ (by rfl) w.heap.size 51 zs17 [.int .i64 ty, .int .i64 ld, .int .i64 z1, .int .i64 z2, .int .i64 ep, .int .i64 own, .int .i64 f1, .int .i64 f2, .int .i64 rnd, .int .i64 st, .int .i64 kd2, .string (bs body), .slice a ents.length cap, .bool flag, .int .i64 node, .int .i64 cli, .int .i64 seq] (by rfl) (by rfl) hM5.j rfl infoMsg (msgCells_one ⟨ty, ld, (z1, z2), ep, own, (f1, f2), rnd, st, kd2, body, ents, flag, node, cli, seq⟩ a cap) ?_)
      intro w9 hS9 hg9
      have hld := run_load_blk (P := Try.prog) hS9 _ Try.underlying51 rfl infoMsg
      have hE9 := ents_kept hE5 hg9 hfr
      go_wp2
      exact bodyPost_ret (v := .tuple #[.agg #[.int .i64 ty, .int .i64 ld, .int .i64 z1, .int .i64 z2, .int .i64 ep, .int .i64 own, .int .i64 f1, .int .i64 f2, .int .i64 rnd, .int .i64 st, .int .i64 kd2, .string (bs body), .slice a ents.length cap, .bool flag, .int .i64 node, .int .i64 cli, .int .i64 seq], .int .i64 0]) (results_cell2 Try.results48 _ _ _ ⟨w.heap.size, 0, none⟩ _ _ (by rfl) (by rfl) hld) rfl (rdec_yes HDY.out (by rw [HPS.out]; rfl) (by rw [HPS.out]; exact hE9) (HB.out _ (hM5.g.own hg9 (Nat.le_refl _))))
    · as_aux_lemma =>
      have HDY := Lib.hid (HDX.out.trans (HRM.out rfl h3))
      have HEb := Lib.hid (endR_ok rr HE2.out h3)
      clear HDX HRB HRM HRO h3
      go_wp2_with (fail)
      refine HEN2.out.mono ?_
      rintro e w6 ⟨rfl, rfl⟩
      rw [HEb.out]
      go_wp2_with (refine wpList_store_blk (by rfl) 51 _ _ (by rfl) w.heap.size 51 zs17 zs17 (by rfl) (by rfl) hM5.j rfl infoMsg (msgCells_one _ _ _) ?_)
      intro w9 hS9 hg9
      have hld := run_load_blk (P := Try.prog) hS9 _ Try.underlying51 rfl infoMsg
      go_wp2
      exact bodyPost_ret (v := .tuple #[msgV zeroM none 0, .int .i64 12]) (results_cell2 Try.results48 _ _ _ ⟨w.heap.size, 0, none⟩ _ _ (by rfl) (by rfl) hld) rfl (rdec_no HDY.out rfl (HB.out _ (hM5.g.own hg9 (Nat.le_refl _))))
end Go.Proofs.Ytlbacddgjagcbaa
