/- The law HistSplits, walked. Conditions: as each theorem says. -/
import Derived.Test.YtaahbfcnccmcoaaHistA
import Derived.Lib.SmallJoins
namespace Go.Proofs.Ytaahbfcnccmcoaa
open Go.RowKit

set_option maxRecDepth 100000 in
open Go.WideShapes Go.ChangeShapes in
theorem open_l {H : Type} {enc : TypeId × Value → H} {w : World} {r : Reach} {base : Nat} {v : Value} {d : DataW H} {p : List MemPlace}
    (hv : Value.okWide Try.prog w r base 22 v) (h : DataW.Trod enc Try.prog w 0 (fun _ => true) true 22 v d p) : IsEnts w v :=
  open_ents (z := 24) Try.underlying22 Try.underlying28 Try.underlying24 Try.underlying3 Try.underlying3 Try.underlying9 rfl rfl rfl rfl (by kernel_rfl) (by kernel_rfl) (by kernel_rfl) (by kernel_rfl) (by kernel_rfl) hv h
/-- What is known of a number that came in. -/
def IsZ (v : Value) : Prop := ∃ t : Int × Int, v = zxidV t ∧ (Lit.int .i64 t.1).wf = true ∧ (Lit.int .i64 t.2).wf = true
set_option maxRecDepth 100000 in
open Go.WideShapes Go.ChangeShapes Go.Joins in
theorem open_z {H : Type} {enc : TypeId × Value → H} {w : World} {r : Reach} {base : Nat} {v : Value} {d : DataW H} {p : List MemPlace}
    (hv : Value.okWide Try.prog w r base 24 v) (h : DataW.Trod enc Try.prog w 0 (fun _ => true) true 24 v d p) : IsZ v := by
  obtain ⟨c0, c1, y0, y1, m, rfl, _, _, hy0, hy1⟩ := open_agg2 Try.underlying24 (by kernel_rfl) (by kernel_rfl : Try.prog.cellsOf 24 = 2) hv h
  obtain ⟨a, e0, _, wa⟩ := DataW.trod_int Try.underlying3 hy0
  obtain ⟨b, e1, _, wb⟩ := DataW.trod_int Try.underlying3 hy1
  simp at e0 e1
  subst e0 e1
  exact ⟨(a, b), rfl, wa, wb⟩
theorem any_step (L : List Ent) (t : Int × Int) (i : Nat) (h : i < L.length) : (L.take (i + 1)).any (fun x => decide (x.z = t)) = ((L.take i).any (fun x => decide (x.z = t)) || decide (L[i].z = t)) := by
  rw [List.take_succ_eq_append_getElem h, List.any_append]; simp
set_option maxRecDepth 100000 in
set_option maxHeartbeats 800000 in
theorem splits_any (L : List Ent) (a : Option Addr) (cap : Nat) (t : Int × Int) (w : World) (hL : EntsAt w (.slice a L.length cap) L) (hn : L.length ≤ maxLen) (hs : ∀ x ∈ L, x.ok) :
    Calls Try.prog 4 #[.slice a L.length cap, zxidV t] w fun e w' => e = .returned (.bool true) ∧ Below w.heap.size w w' := by
  unfold maxLen at hn
  have hb1 : Below w.heap.size w (w.alloc (.cells #[.int .i64 t.1, .int .i64 t.2] 24)) := (Below.refl _ w).alloc (Nat.le_refl _) _
  have hk := heap_alloc_new w (.cells #[.int .i64 t.1, .int .i64 t.2] 24)
  have HF := Lib.hid (fun w2 h2 => few_any L a cap w2 h2 hn hs)
  have HR := Lib.hid (fun w2 h2 => right_any L a cap w2 h2 hn)
  have HN := Lib.hid (fun w2 h2 => find_any L a cap t w2 h2 hn)
  have HLs := Lib.hid (fun x w2 => less_any t x w2)
  unfold zxidV at HN HLs ⊢
  have HL := Lib.hid (fun w2 (h : Below w.heap.size w w2) => hL.grew h)
  have Hb1 := Lib.hid hb1
  have Hk := Lib.hid hk
  clear hL hb1 hk
  go_enter Try.func4, Try.ntmps4
  go_wp2_with (fail)
  refine (HF.out _ (HL.out _ Hb1.out)).mono ?_
  rintro e w1 ⟨rfl, rfl⟩
  by_cases hf : fewE L = true
  · rw [hf]
    go_wp2_with (fail)
    refine (HR.out _ (HL.out _ Hb1.out)).mono ?_
    rintro e w2 ⟨rfl, hb2⟩
    have Hb2 := Lib.hid (Hb1.out.trans (hb2.mono Hb1.out.size))
    have Hk2 := Lib.hid (Grew.at_ hb2 Hk.out)
    clear hb2
    by_cases hr : rightL (0, 0) L = true
    · rw [hr]
      have k0 : w2.cell? ⟨w.heap.size, 0, none⟩ = some (.int .i64 t.1) := by rw [Lib.cell_of_heap Hk2.out]; rfl
      have k1 : w2.cell? ⟨w.heap.size, 1, none⟩ = some (.int .i64 t.2) := by rw [Lib.cell_of_heap Hk2.out]; rfl
      have hlaw := Lib.hid (has_law L t hr)
      have hspl := Lib.hid (splits_law L t hr)
      have hfl := findN_le L t
      go_wp2_with (fail)
      refine (HN.out _ (HL.out _ Hb2.out)).mono ?_
      rintro e w3 ⟨rfl, hb3⟩
      have Hb3 := Lib.hid (Hb2.out.trans (hb3.mono Hb2.out.size))
      have Hk3 := Lib.hid (Grew.at_ hb3 Hk2.out)
      clear hb3 k0 k1 hr hf
      generalize findB L t = fb at *
      generalize findN L t = n at *
      have d0 : decide ((n : Int) < 0) = false := by simp
      have d1 : decide (L.length < n) = false := by simp; omega
      go_wp2
      go_loopw [7, 8] (fun vh vi wr => ∃ (i : Nat), vi = .int .i64 i ∧ i ≤ L.length ∧ vh = .bool ((L.take i).any (fun x => decide (x.z = t))) ∧ Below w3.heap.size w3 wr) (fun _ vi _ => L.length - (intOf vi).toNat)
      case atStart => exact ⟨0, rfl, by omega, by simp, Below.refl _ _⟩
      case round =>
        obtain ⟨i, rfl, hi, rfl, hbr⟩ := hrel
        by_cases h : i < L.length
        · obtain ⟨bb, off, rfl, hcl⟩ := ents_get (HL.out wr (Hb3.out.trans (hbr.mono Hb3.out.size))) i h
          obtain ⟨e0, e1, e2⟩ := hcl
          have hkr := Grew.at_ hbr Hk3.out
          have k0 : wr.cell? ⟨w.heap.size, 0, none⟩ = some (.int .i64 t.1) := by rw [Lib.cell_of_heap hkr]; rfl
          have k1 : wr.cell? ⟨w.heap.size, 1, none⟩ = some (.int .i64 t.2) := by rw [Lib.cell_of_heap hkr]; rfl
          have hst := Lib.hid (any_step L t i h)
          have hsp := hspl.out i h
          generalize L[i] = x at *
          have HLx := Lib.hid (fun w2 => HLs.out (x.e, x.c) w2)
          have hb' : (decide (n ≤ i)) = decide ((n : Int) ≤ (i : Int)) := by simp
          generalize (List.take i L).any (fun x => decide (x.z = t)) = hh at *
          have hless : ∀ b, lessZ t x.z = b → Hid (∀ w2 : World, Calls Try.prog 14 #[.agg #[.int .i64 t.1, .int .i64 t.2], .agg #[.int .i64 x.e, .int .i64 x.c]] w2 fun e w' => e = .returned (.bool b) ∧ Below w2.heap.size w2 w') := by
            intro b hb; subst hb; exact HLx.out
          clear HLx hb'
          by_cases hni : n ≤ i
          · as_aux_lemma =>
            have HX := hless true (by rw [hsp]; exact decide_eq_true hni)
            clear hsp hless hkr
            go_wp2_with (fail)
            have hex := Grew.all wr
            refine wp_region_grew (by kernel_rfl) (by kernel_rfl) ?_
            repeat (first | go_big_quiet_skip | (go_big_quiet_want; first | (refine quiet_load_mid 24 (.tmp 3) rfl _ _ rfl [.int .i64 t.1, .int .i64 t.2] _ (fun W hW => range2 (Grew.cell hW k0) (Grew.cell hW k1)) Try.underlying24 rfl (by kernel_rfl) ?_; simp only [Act.put, List.setIfInBounds_toArray, List.set_cons_succ, List.set_cons_zero]; go_big_quiet_on) | (refine quiet_load_mid 24 (.tmp 42) rfl _ _ rfl [.int .i64 x.e, .int .i64 x.c] _ (fun W hW => range2 (Grew.cell hW e0) (Grew.cell hW e1)) Try.underlying24 rfl (by kernel_rfl) ?_; simp only [Act.put, List.setIfInBounds_toArray, List.set_cons_succ, List.set_cons_zero]; go_big_quiet_on) | (go_big_quiet_op; first | go_big_quiet_on | (apply Exists.intro; refine ⟨fun W hW => ?_, ?_⟩; (first | exact rfl | (go_at_call 14; with_reducible exact Calls.grew hW (HX.out _))); go_big_quiet_on))))
            refine wpQuiet_nil ?_
            intro w4 hw4
            have k0 := Grew.cell hw4 k0
            have k1 := Grew.cell hw4 k1
            have e0 := Grew.cell hw4 e0
            have e1 := Grew.cell hw4 e1
            have hb4 := Lib.hid (hbr.trans (Below.mono (show Below wr.heap.size wr w4 from hw4) hbr.size))
            clear hex hw4 e2
            cases hh with
            | true =>
              go_wp2
              have hex := Grew.all w4
              refine wp_region_grew (by kernel_rfl) (by kernel_rfl) ?_
              repeat (first | go_big_quiet_skip | (go_big_quiet_want; first | (refine fail ?_; simp only [Act.put, List.setIfInBounds_toArray, List.set_cons_succ, List.set_cons_zero]; go_big_quiet_on) | (go_big_quiet_op; first | go_big_quiet_on | (apply Exists.intro; refine ⟨fun W hW => ?_, ?_⟩; (first | exact rfl); go_big_quiet_on))))
              refine wpQuiet_nil ?_
              intro w5 hw5
              have hb5 := hb4.out.trans (Below.mono (show Below w4.heap.size w4 w5 from hw5) hb4.out.size)
              clear hex hw5
              go_wp2
              go_roundw
              case rel => exact ⟨i + 1, by go_num, by omega, by rw [hst.out]; rfl, hb5⟩
              case measure => simp [intOf]; omega
            | false =>
              rcases zx_cases x.z t with ⟨hz, b0, b1⟩ | ⟨hz, b0, b1⟩ | ⟨hz, b0⟩
              all_goals
                have Hz := Lib.hid hz
                clear hz
                unfold Ent.z at b0
                try unfold Ent.z at b1
                go_wp2
                have hex := Grew.all w4
                refine wp_region_grew (by kernel_rfl) (by kernel_rfl) ?_
                repeat (first | go_big_quiet_skip | (go_big_quiet_want; first | (refine quiet_load_mid 24 (.tmp 3) rfl _ _ rfl [.int .i64 t.1, .int .i64 t.2] _ (fun W hW => range2 (Grew.cell hW k0) (Grew.cell hW k1)) Try.underlying24 rfl (by kernel_rfl) ?_; simp only [Act.put, List.setIfInBounds_toArray, List.set_cons_succ, List.set_cons_zero]; go_big_quiet_on) | (refine quiet_load_mid 24 (.tmp 54) rfl _ _ rfl [.int .i64 x.e, .int .i64 x.c] _ (fun W hW => range2 (Grew.cell hW e0) (Grew.cell hW e1)) Try.underlying24 rfl (by kernel_rfl) ?_; simp only [Act.put, List.setIfInBounds_toArray, List.set_cons_succ, List.set_cons_zero]; go_big_quiet_on) | (go_big_quiet_op; first | go_big_quiet_on | (apply Exists.intro; refine ⟨fun W hW => ?_, ?_⟩; (first | exact rfl); go_big_quiet_on))))
                refine wpQuiet_nil ?_
                intro w5 hw5
                have hb5 := hb4.out.trans (Below.mono (show Below w4.heap.size w4 w5 from hw5) hb4.out.size)
                clear hex hw5
                go_wp2
                go_roundw
                case rel =>
                  have hfin : Hid ((false || decide (x.z = t)) = decide (x.z = t)) := Bool.false_or _
                  have hrel : ∃ i' : Nat, Value.int .i64 ((i : Int) + 1) = .int .i64 i' ∧ i' ≤ L.length ∧ Value.bool (decide (x.z = t)) = .bool ((L.take i').any fun x => decide (x.z = t)) ∧ Below w3.heap.size w3 w5 :=
                    ⟨i + 1, by go_num, by omega, by rw [hst.out, hfin.out], hb5⟩
                  simp only [Hz.out, decide_true, decide_false] at hrel
                  first | exact hrel | ((repeat apply Exists.intro); exact ⟨hrel, rfl⟩)
                case measure => simp [intOf]; omega
          · as_aux_lemma =>
            have HX := hless false (by rw [hsp]; exact decide_eq_false hni)
            clear hsp hless hkr
            go_wp2_with (fail)
            have hex := Grew.all wr
            refine wp_region_grew (by kernel_rfl) (by kernel_rfl) ?_
            repeat (first | go_big_quiet_skip | (go_big_quiet_want; first | (refine quiet_load_mid 24 (.tmp 3) rfl _ _ rfl [.int .i64 t.1, .int .i64 t.2] _ (fun W hW => range2 (Grew.cell hW k0) (Grew.cell hW k1)) Try.underlying24 rfl (by kernel_rfl) ?_; simp only [Act.put, List.setIfInBounds_toArray, List.set_cons_succ, List.set_cons_zero]; go_big_quiet_on) | (refine quiet_load_mid 24 (.tmp 42) rfl _ _ rfl [.int .i64 x.e, .int .i64 x.c] _ (fun W hW => range2 (Grew.cell hW e0) (Grew.cell hW e1)) Try.underlying24 rfl (by kernel_rfl) ?_; simp only [Act.put, List.setIfInBounds_toArray, List.set_cons_succ, List.set_cons_zero]; go_big_quiet_on) | (go_big_quiet_op; first | go_big_quiet_on | (apply Exists.intro; refine ⟨fun W hW => ?_, ?_⟩; (first | exact rfl | (go_at_call 14; with_reducible exact Calls.grew hW (HX.out _))); go_big_quiet_on))))
            refine wpQuiet_nil ?_
            intro w4 hw4
            have k0 := Grew.cell hw4 k0
            have k1 := Grew.cell hw4 k1
            have e0 := Grew.cell hw4 e0
            have e1 := Grew.cell hw4 e1
            have hb4 := Lib.hid (hbr.trans (Below.mono (show Below wr.heap.size wr w4 from hw4) hbr.size))
            clear hex hw4 e2
            cases hh with
            | true =>
              go_wp2
              have hex := Grew.all w4
              refine wp_region_grew (by kernel_rfl) (by kernel_rfl) ?_
              repeat (first | go_big_quiet_skip | (go_big_quiet_want; first | (refine fail ?_; simp only [Act.put, List.setIfInBounds_toArray, List.set_cons_succ, List.set_cons_zero]; go_big_quiet_on) | (go_big_quiet_op; first | go_big_quiet_on | (apply Exists.intro; refine ⟨fun W hW => ?_, ?_⟩; (first | exact rfl); go_big_quiet_on))))
              refine wpQuiet_nil ?_
              intro w5 hw5
              have hb5 := hb4.out.trans (Below.mono (show Below w4.heap.size w4 w5 from hw5) hb4.out.size)
              clear hex hw5
              go_wp2
              go_roundw
              case rel => exact ⟨i + 1, by go_num, by omega, by rw [hst.out]; rfl, hb5⟩
              case measure => simp [intOf]; omega
            | false =>
              rcases zx_cases x.z t with ⟨hz, b0, b1⟩ | ⟨hz, b0, b1⟩ | ⟨hz, b0⟩
              all_goals
                have Hz := Lib.hid hz
                clear hz
                unfold Ent.z at b0
                try unfold Ent.z at b1
                go_wp2
                have hex := Grew.all w4
                refine wp_region_grew (by kernel_rfl) (by kernel_rfl) ?_
                repeat (first | go_big_quiet_skip | (go_big_quiet_want; first | (refine quiet_load_mid 24 (.tmp 3) rfl _ _ rfl [.int .i64 t.1, .int .i64 t.2] _ (fun W hW => range2 (Grew.cell hW k0) (Grew.cell hW k1)) Try.underlying24 rfl (by kernel_rfl) ?_; simp only [Act.put, List.setIfInBounds_toArray, List.set_cons_succ, List.set_cons_zero]; go_big_quiet_on) | (refine quiet_load_mid 24 (.tmp 54) rfl _ _ rfl [.int .i64 x.e, .int .i64 x.c] _ (fun W hW => range2 (Grew.cell hW e0) (Grew.cell hW e1)) Try.underlying24 rfl (by kernel_rfl) ?_; simp only [Act.put, List.setIfInBounds_toArray, List.set_cons_succ, List.set_cons_zero]; go_big_quiet_on) | (go_big_quiet_op; first | go_big_quiet_on | (apply Exists.intro; refine ⟨fun W hW => ?_, ?_⟩; (first | exact rfl); go_big_quiet_on))))
                refine wpQuiet_nil ?_
                intro w5 hw5
                have hb5 := hb4.out.trans (Below.mono (show Below w4.heap.size w4 w5 from hw5) hb4.out.size)
                clear hex hw5
                go_wp2
                go_roundw
                case rel =>
                  have hfin : Hid ((false || decide (x.z = t)) = decide (x.z = t)) := Bool.false_or _
                  have hrel : ∃ i' : Nat, Value.int .i64 ((i : Int) + 1) = .int .i64 i' ∧ i' ≤ L.length ∧ Value.bool (decide (x.z = t)) = .bool ((L.take i').any fun x => decide (x.z = t)) ∧ Below w3.heap.size w3 w5 :=
                    ⟨i + 1, by go_num, by omega, by rw [hst.out, hfin.out], hb5⟩
                  simp only [Hz.out, decide_true, decide_false] at hrel
                  first | exact hrel | ((repeat apply Exists.intro); exact ⟨hrel, rfl⟩)
                case measure => simp [intOf]; omega
        · as_aux_lemma =>
          have hall := Lib.hid hlaw.out
          rw [List.take_of_length_le (by omega : L.length ≤ i), ← hlaw.out]
          go_wp2_with (fail)
          cases fb
          all_goals
            go_wp2_with (fail)
            refine (awake_any _).mono ?_
            rintro e w5 ⟨rfl, hb5⟩
            go_wp2
            go_ret
            exact ⟨rfl, (Hb3.out.trans (hbr.mono Hb3.out.size)).trans (hb5.mono (Nat.le_trans Hb3.out.size hbr.size))⟩
    · as_aux_lemma =>
      rw [Bool.not_eq_true] at hr
      rw [hr]
      go_wp2_with (fail)
      refine (awake_any _).mono ?_
      rintro e w5 ⟨rfl, hb5⟩
      go_wp2
      go_ret
      exact ⟨rfl, Hb2.out.trans (hb5.mono Hb2.out.size)⟩
  · as_aux_lemma =>
    rw [Bool.not_eq_true] at hf
    rw [hf]
    go_wp2_with (fail)
    refine (awake_any _).mono ?_
    rintro e w5 ⟨rfl, hb5⟩
    go_wp2
    go_ret
    exact ⟨rfl, Hb1.out.trans (hb5.mono Hb1.out.size)⟩
/-- THE LAW. -/
theorem histSplits_walk (W : World) (v0 v1 : Value) (h0 : IsEnts W v0) (h1 : IsZ v1) :
    Calls Try.prog 4 #[v0, v1] W fun e w' => e = .returned (.bool true) ∧ Below W.heap.size W w' := by
  obtain ⟨L, a, cap, rfl, h1', h2, h3, h4⟩ := h0
  obtain ⟨t, rfl, _, _⟩ := h1
  exact splits_any L a cap t W h3 (Nat.le_trans h1' h2) h4
end Go.Proofs.Ytaahbfcnccmcoaa
