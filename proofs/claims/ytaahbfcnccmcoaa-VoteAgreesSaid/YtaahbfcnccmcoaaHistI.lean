/- The walk of the reference's Right. Conditions: as each theorem says. -/
import Derived.Test.YtaahbfcnccmcoaaHistG
namespace Go.Proofs.Ytaahbfcnccmcoaa
open Go.RowKit

set_option maxRecDepth 100000 in
set_option maxHeartbeats 1600000 in
theorem refright_any (L : List Ent) (a : Option Addr) (cap : Nat) (w : World) (hL : EntsAt w (.slice a L.length cap) L) (hn : L.length ≤ 9223372036854775807) :
    Calls Try.prog 25 #[.slice a L.length cap] w fun e w' => e = .returned (.bool (rightL (0, 0) L)) ∧ Below w.heap.size w w' := by
  go_enter Try.func25, Try.ntmps25
  go_wp2
  go_loopw [3] (fun vi wr => ∃ (i : Nat) (last : Int × Int), vi = .int .i64 i ∧ i ≤ L.length ∧ Below w.heap.size w wr ∧ rightL (0, 0) L = rightL last (L.drop i) ∧ (i = 0 → last = (0, 0)) ∧ ∀ (h : i - 1 < L.length), 0 < i → last = L[i - 1].z) (fun vi _ => L.length - (intOf vi).toNat)
  case atStart => exact ⟨0, (0, 0), rfl, by omega, Below.refl _ _, rfl, fun _ => rfl, fun _ h => absurd h (by omega)⟩
  case round =>
    obtain ⟨i, last, rfl, hi, hbr, hr, hl0, hl1⟩ := hrel
    have HR := Lib.hid hr
    have HL0 := Lib.hid hl0
    have HL1 := Lib.hid hl1
    clear hr hl0 hl1
    by_cases h : i < L.length
    · obtain ⟨bb, off, rfl, e0, e1, e2⟩ := ents_get (hL.grew hbr) i h
      have HA := Lib.hid (rightL_at last L i h)
      have HY : Hid (∀ (h0 : 0 < i), ∃ y : Ent, last = (y.e, y.c) ∧ EntCells wr bb (off + (i - 1) * 3) y) := by
        intro h0
        have hi1 : i - 1 < L.length := by omega
        obtain ⟨bb2, off2, ha, hc⟩ := ents_get (hL.grew hbr) (i - 1) hi1
        simp only [Option.some.injEq, Addr.mk.injEq, and_true] at ha
        obtain ⟨rfl, rfl⟩ := ha
        exact ⟨L[i - 1], HL1.out hi1 h0, hc⟩
      generalize hgx : L[i] = x at *
      have HNX : Hid (∀ h1 : i + 1 - 1 < L.length, 0 < i + 1 → x.z = L[i + 1 - 1].z) := fun _ _ => (congrArg Ent.z hgx.symm)
      clear hL HL1 hgx
      by_cases h1 : x.e < 1
      · as_aux_lemma =>
        have HF : Hid (rightL (0, 0) L = false) := by
          show _ = _
          rw [HR.out, HA.out, decide_eq_false (by omega)]; rfl
        have d1 : decide (x.e < 1) = true := decide_eq_true h1
        clear HR HA HY HL0 HNX
        go_wp2_with (fail)
        have hex := Grew.all wr
        refine wp_region_grew (by kernel_rfl) (by kernel_rfl) ?_
        repeat (first | go_big_quiet_skip | (go_big_quiet_want; first | (refine quiet_load_cell 3 _ rfl _ rfl _ _ Try.underlying3 rfl (fun W hW => Grew.cell hW e0) ?_; simp only [Act.put, List.setIfInBounds_toArray, List.set_cons_succ, List.set_cons_zero]; go_big_quiet_on) | (go_big_quiet_op; first | go_big_quiet_on | (apply Exists.intro; refine ⟨fun W hW => ?_, ?_⟩; (first | exact rfl); go_big_quiet_on))))
        refine wpQuiet_nil ?_
        intro wq hw4
        have hbq := hbr.trans (Below.mono (show Below wr.heap.size wr wq from hw4) hbr.size)
        clear hex hw4
        go_wp2
        go_ret
        exact ⟨by rw [HF.out]; rfl, hbq⟩
      · have d1 : decide (x.e < 1) = false := decide_eq_false h1
        by_cases h2 : x.c < 1
        · as_aux_lemma =>
          have HF : Hid (rightL (0, 0) L = false) := by
            show _ = _
            rw [HR.out, HA.out, decide_eq_false (p := 1 ≤ x.c) (by omega), Bool.and_false]; rfl
          have d2 : decide (x.c < 1) = true := decide_eq_true h2
          clear HR HA HY HL0 HNX
          go_wp2_with (fail)
          have hex := Grew.all wr
          refine wp_region_grew (by kernel_rfl) (by kernel_rfl) ?_
          repeat (first | go_big_quiet_skip | (go_big_quiet_want; first | (refine quiet_load_cell 3 _ rfl _ rfl _ _ Try.underlying3 rfl (fun W hW => Grew.cell hW e0) ?_; simp only [Act.put, List.setIfInBounds_toArray, List.set_cons_succ, List.set_cons_zero]; go_big_quiet_on) | (refine quiet_load_cell 3 _ rfl _ rfl _ _ Try.underlying3 rfl (fun W hW => Grew.cell hW e1) ?_; simp only [Act.put, List.setIfInBounds_toArray, List.set_cons_succ, List.set_cons_zero]; go_big_quiet_on) | (go_big_quiet_op; first | go_big_quiet_on | (apply Exists.intro; refine ⟨fun W hW => ?_, ?_⟩; (first | exact rfl); go_big_quiet_on))))
          refine wpQuiet_nil ?_
          intro wq hw4
          have hbq := hbr.trans (Below.mono (show Below wr.heap.size wr wq from hw4) hbr.size)
          clear hex hw4
          go_wp2
          go_ret
          exact ⟨by rw [HF.out]; rfl, hbq⟩
        · have d2 : decide (x.c < 1) = false := decide_eq_false h2
          have HA2 : Hid (rightL (0, 0) L = (lessZ last (x.e, x.c) && rightL x.z (L.drop (i + 1)))) := by
            show _ = _
            rw [HR.out, HA.out, decide_eq_true (p := 1 ≤ x.e) (by omega), decide_eq_true (p := 1 ≤ x.c) (by omega)]; rfl
          clear HR HA
          by_cases hi0 : 0 < i
          · obtain ⟨y, hy, f0, f1, f2⟩ := HY.out hi0
            have d3 : decide (0 < (i : Int)) = true := by simp; omega
            have d4 : (1 : Int) ≤ (i : Int) := by omega
            subst hy
            have HX := Lib.hid (fun W => refless_any (y.e, y.c) (x.e, x.c) W)
            unfold zxidV at HX
            clear HY HL0
            by_cases hp : lessZ (y.e, y.c) (x.e, x.c) = true
            · as_aux_lemma =>
              rw [hp] at HX HA2
              clear hp
              go_wp2_with (fail)
              have hex := Grew.all wr
              refine wp_region_grew (by kernel_rfl) (by kernel_rfl) ?_
              repeat (first | go_big_quiet_skip | (go_big_quiet_want; first | (refine quiet_load_cell 3 _ rfl _ rfl _ _ Try.underlying3 rfl (fun W hW => Grew.cell hW e0) ?_; simp only [Act.put, List.setIfInBounds_toArray, List.set_cons_succ, List.set_cons_zero]; go_big_quiet_on) | (refine quiet_load_cell 3 _ rfl _ rfl _ _ Try.underlying3 rfl (fun W hW => Grew.cell hW e1) ?_; simp only [Act.put, List.setIfInBounds_toArray, List.set_cons_succ, List.set_cons_zero]; go_big_quiet_on) | (refine quiet_load_mid 32 _ rfl _ _ rfl [.int .i64 y.e, .int .i64 y.c] _ (fun W hW => range2 (Grew.cell hW f0) (Grew.cell hW f1)) Try.underlying32 rfl (by kernel_rfl) ?_; simp only [Act.put, List.setIfInBounds_toArray, List.set_cons_succ, List.set_cons_zero]; go_big_quiet_on) | (refine quiet_load_mid 32 _ rfl _ _ rfl [.int .i64 x.e, .int .i64 x.c] _ (fun W hW => range2 (Grew.cell hW e0) (Grew.cell hW e1)) Try.underlying32 rfl (by kernel_rfl) ?_; simp only [Act.put, List.setIfInBounds_toArray, List.set_cons_succ, List.set_cons_zero]; go_big_quiet_on) | (go_big_quiet_op; first | go_big_quiet_on | (apply Exists.intro; refine ⟨fun W hW => ?_, ?_⟩; (first | exact rfl | (go_at_call 43; with_reducible exact Calls.grew hW (HX.out _))); go_big_quiet_on))))
              refine wpQuiet_nil ?_
              intro wq hw4
              have hbq := hbr.trans (Below.mono (show Below wr.heap.size wr wq from hw4) hbr.size)
              clear hex hw4
              go_wp2
              go_roundw
              case rel => exact ⟨i + 1, x.z, by go_num, by omega, hbq, HA2.out, fun h => absurd h (by omega), HNX.out⟩
              case measure => simp [intOf]; omega
            · as_aux_lemma =>
              rw [Bool.not_eq_true] at hp
              rw [hp] at HX HA2
              have HF : Hid (rightL (0, 0) L = false) := HA2.out
              clear hp HA2
              go_wp2_with (fail)
              have hex := Grew.all wr
              refine wp_region_grew (by kernel_rfl) (by kernel_rfl) ?_
              repeat (first | go_big_quiet_skip | (go_big_quiet_want; first | (refine quiet_load_cell 3 _ rfl _ rfl _ _ Try.underlying3 rfl (fun W hW => Grew.cell hW e0) ?_; simp only [Act.put, List.setIfInBounds_toArray, List.set_cons_succ, List.set_cons_zero]; go_big_quiet_on) | (refine quiet_load_cell 3 _ rfl _ rfl _ _ Try.underlying3 rfl (fun W hW => Grew.cell hW e1) ?_; simp only [Act.put, List.setIfInBounds_toArray, List.set_cons_succ, List.set_cons_zero]; go_big_quiet_on) | (refine quiet_load_mid 32 _ rfl _ _ rfl [.int .i64 y.e, .int .i64 y.c] _ (fun W hW => range2 (Grew.cell hW f0) (Grew.cell hW f1)) Try.underlying32 rfl (by kernel_rfl) ?_; simp only [Act.put, List.setIfInBounds_toArray, List.set_cons_succ, List.set_cons_zero]; go_big_quiet_on) | (refine quiet_load_mid 32 _ rfl _ _ rfl [.int .i64 x.e, .int .i64 x.c] _ (fun W hW => range2 (Grew.cell hW e0) (Grew.cell hW e1)) Try.underlying32 rfl (by kernel_rfl) ?_; simp only [Act.put, List.setIfInBounds_toArray, List.set_cons_succ, List.set_cons_zero]; go_big_quiet_on) | (go_big_quiet_op; first | go_big_quiet_on | (apply Exists.intro; refine ⟨fun W hW => ?_, ?_⟩; (first | exact rfl | (go_at_call 43; with_reducible exact Calls.grew hW (HX.out _))); go_big_quiet_on))))
              refine wpQuiet_nil ?_
              intro wq hw4
              have hbq := hbr.trans (Below.mono (show Below wr.heap.size wr wq from hw4) hbr.size)
              clear hex hw4
              go_wp2
              go_ret
              exact ⟨by rw [HF.out]; rfl, hbq⟩
          · as_aux_lemma =>
            have d3 : decide (0 < (i : Int)) = false := by simp; omega
            have hl : last = (0, 0) := HL0.out (by omega)
            subst hl
            have hp : lessZ (0, 0) (x.e, x.c) = true := by rw [lessZ_iff]; left; show (0 : Int) < x.e; omega
            rw [hp] at HA2
            clear HY HL0 hp
            go_wp2_with (fail)
            have hex := Grew.all wr
            refine wp_region_grew (by kernel_rfl) (by kernel_rfl) ?_
            repeat (first | go_big_quiet_skip | (go_big_quiet_want; first | (refine quiet_load_cell 3 _ rfl _ rfl _ _ Try.underlying3 rfl (fun W hW => Grew.cell hW e0) ?_; simp only [Act.put, List.setIfInBounds_toArray, List.set_cons_succ, List.set_cons_zero]; go_big_quiet_on) | (refine quiet_load_cell 3 _ rfl _ rfl _ _ Try.underlying3 rfl (fun W hW => Grew.cell hW e1) ?_; simp only [Act.put, List.setIfInBounds_toArray, List.set_cons_succ, List.set_cons_zero]; go_big_quiet_on) | (go_big_quiet_op; first | go_big_quiet_on | (apply Exists.intro; refine ⟨fun W hW => ?_, ?_⟩; (first | exact rfl); go_big_quiet_on))))
            refine wpQuiet_nil ?_
            intro wq hw4
            have hbq := hbr.trans (Below.mono (show Below wr.heap.size wr wq from hw4) hbr.size)
            clear hex hw4
            go_wp2
            go_roundw
            case rel => exact ⟨i + 1, x.z, by go_num, by omega, hbq, HA2.out, fun h => absurd h (by omega), HNX.out⟩
            case measure => simp [intOf]; omega
    · as_aux_lemma =>
      have HF : Hid (rightL (0, 0) L = true) := by
        show _ = _
        rw [HR.out, List.drop_eq_nil_of_le (by omega)]; rfl
      go_wp2
      go_ret
      exact ⟨by rw [HF.out]; rfl, hbr⟩
end Go.Proofs.Ytaahbfcnccmcoaa
