/- The walks of the reference's Find. Conditions: as each theorem says. -/
import Derived.Test.YtaahbfcnccmcoaaHistE
namespace Go.Proofs.Ytaahbfcnccmcoaa
open Go.RowKit

set_option maxRecDepth 100000 in
set_option maxHeartbeats 1600000 in
theorem reffind_any (L : List Ent) (a : Option Addr) (cap : Nat) (t : Int × Int) (w : World) (hL : EntsAt w (.slice a L.length cap) L) (hn : L.length ≤ 9223372036854775807) :
    Calls Try.prog 22 #[.slice a L.length cap, zxidV t] w fun e w' => e = .returned (.tuple #[.int .i64 (findN L t : Int), .bool (findB L t)]) ∧ Below w.heap.size w w' := by
  have HLs := Lib.hid (fun x W => refless_any t x W)
  unfold zxidV at HLs ⊢
  have hk := Lib.hid (heap_alloc_new w (.cells #[.int .i64 t.1, .int .i64 t.2] 32))
  have hb1 := Lib.hid ((Below.refl _ w).alloc (Nat.le_refl _) (.cells #[.int .i64 t.1, .int .i64 t.2] 32))
  have HK1 : Hid (∀ wr, Below (w.heap.size + 1) (w.alloc (.cells #[.int .i64 t.1, .int .i64 t.2] 32)) wr → wr.heap[w.heap.size]? = some (.cells #[.int .i64 t.1, .int .i64 t.2] 32 (0, 0))) := by
    intro wr h
    rw [h.block _ (by omega)]
    exact hk.out
  go_enter Try.func22, Try.ntmps22
  go_wp2
  go_loopw [6] (fun vi wr => ∃ (i : Nat), vi = .int .i64 i ∧ i ≤ L.length ∧ i ≤ findN L t ∧ Below (w.heap.size + 1) (w.alloc (.cells #[.int .i64 t.1, .int .i64 t.2] 32)) wr) (fun vi _ => L.length - (intOf vi).toNat)
  case atStart => exact ⟨0, rfl, by omega, by omega, Below.refl _ _⟩
  case round =>
    obtain ⟨i, rfl, hi, hif, hbr⟩ := hrel
    have hkr := HK1.out wr hbr
    have k0 : wr.cell? ⟨w.heap.size, 0, none⟩ = some (.int .i64 t.1) := by rw [Lib.cell_of_heap hkr]; rfl
    have k1 : wr.cell? ⟨w.heap.size, 1, none⟩ = some (.int .i64 t.2) := by rw [Lib.cell_of_heap hkr]; rfl
    have hbw : Below w.heap.size w wr := hb1.out.trans (hbr.mono (by omega))
    clear hkr
    by_cases h : i < L.length
    · obtain ⟨bb, off, rfl, e0, e1, e2⟩ := ents_get (hL.grew hbw) i h
      have HX := Lib.hid (HLs.out L[i].z)
      have hd : decide (i < L.length) = true := decide_eq_true h
      by_cases hp : lessZ t L[i].z = true
      · have hfi : findN L t = i := by
          rcases Nat.lt_or_ge i (findN L t) with h1 | h1
          · have := findN_below L t i h h1
            rw [this] at hp; exact absurd hp (by simp)
          · omega
        rw [hp] at HX
        clear hp hif
        generalize L[i] = x at *
        unfold Ent.z at HX
        go_wp2_with (fail)
        have hex := Grew.all wr
        refine wp_region_grew (by kernel_rfl) (by kernel_rfl) ?_
        repeat (first | go_big_quiet_skip | (go_big_quiet_want; first | (refine quiet_load_mid 32 _ rfl _ _ rfl [.int .i64 t.1, .int .i64 t.2] _ (fun W hW => range2 (Grew.cell hW k0) (Grew.cell hW k1)) Try.underlying32 rfl (by kernel_rfl) ?_; simp only [Act.put, List.setIfInBounds_toArray, List.set_cons_succ, List.set_cons_zero]; go_big_quiet_on) | (refine quiet_load_mid 32 _ rfl _ _ rfl [.int .i64 x.e, .int .i64 x.c] _ (fun W hW => range2 (Grew.cell hW e0) (Grew.cell hW e1)) Try.underlying32 rfl (by kernel_rfl) ?_; simp only [Act.put, List.setIfInBounds_toArray, List.set_cons_succ, List.set_cons_zero]; go_big_quiet_on) | (go_big_quiet_op; first | go_big_quiet_on | (apply Exists.intro; refine ⟨fun W hW => ?_, ?_⟩; (first | exact rfl | (go_at_call 43; with_reducible exact Calls.grew hW (HX.out _))); go_big_quiet_on))))
        refine wpQuiet_nil ?_
        intro wq hw4
        have k0 := Grew.cell hw4 k0
        have k1 := Grew.cell hw4 k1
        have hbq : Below w.heap.size w wq := hbw.trans (Below.mono (show Below wr.heap.size wr wq from hw4) hbw.size)
        clear hex hw4 e0 e1 e2 hbr hbw HX HLs HK1 hb1 hk
        have hfl := findN_le L t
        rcases Nat.eq_zero_or_pos i with h0 | h0
        · as_aux_lemma =>
          subst h0
          have HB : Hid (findB L t = false) := findB_none L t hfi
          have HK := Lib.hid hfi
          clear hfi hfl
          go_wp2
          have hex := Grew.all wq
          refine wp_region_grew (by kernel_rfl) (by kernel_rfl) ?_
          repeat (first | go_big_quiet_skip | (go_big_quiet_want; first | (refine fail ?_; simp only [Act.put, List.setIfInBounds_toArray, List.set_cons_succ, List.set_cons_zero]; go_big_quiet_on) | (go_big_quiet_op; first | go_big_quiet_on | (apply Exists.intro; refine ⟨fun W hW => ?_, ?_⟩; (first | exact rfl); go_big_quiet_on))))
          refine wpQuiet_nil ?_
          intro w5 hw5
          have hb5 := hbq.trans (Below.mono (show Below wq.heap.size wq w5 from hw5) hbq.size)
          clear hex hw5
          go_wp2
          go_ret2
          exact ⟨by rw [HB.out, HK.out]; rfl, hb5⟩
        · have hi1 : i - 1 < L.length := by omega
          obtain ⟨bb, off, ha, e0, e1, e2⟩ := ents_get (hL.grew hbq) (i - 1) hi1
          first | subst ha | (simp only [Option.some.injEq, Addr.mk.injEq, and_true] at ha; obtain ⟨rfl, rfl⟩ := ha)
          have HB := Lib.hid (findB_of L t (i - 1) (by omega) hi1)
          have HK := Lib.hid hfi
          clear hfi hfl
          generalize L[i - 1] = x at *
          have d0 : decide (0 < (i : Int)) = true := by simp; omega
          have d1 : (1 : Int) ≤ (i : Int) := by omega
          rcases zx_cases x.z t with ⟨hz, b0, b1⟩ | ⟨hz, b0, b1⟩ | ⟨hz, b0⟩
          all_goals
            as_aux_lemma =>
            have Hz := Lib.hid hz
            clear hz
            unfold Ent.z at b0
            try unfold Ent.z at b1
            go_wp2
            have hex := Grew.all wq
            refine wp_region_grew (by kernel_rfl) (by kernel_rfl) ?_
            repeat (first | go_big_quiet_skip | (go_big_quiet_want; first | (refine quiet_load_mid 32 _ rfl _ _ rfl [.int .i64 t.1, .int .i64 t.2] _ (fun W hW => range2 (Grew.cell hW k0) (Grew.cell hW k1)) Try.underlying32 rfl (by kernel_rfl) ?_; simp only [Act.put, List.setIfInBounds_toArray, List.set_cons_succ, List.set_cons_zero]; go_big_quiet_on) | (refine quiet_load_mid 32 _ rfl _ _ rfl [.int .i64 x.e, .int .i64 x.c] _ (fun W hW => range2 (Grew.cell hW e0) (Grew.cell hW e1)) Try.underlying32 rfl (by kernel_rfl) ?_; simp only [Act.put, List.setIfInBounds_toArray, List.set_cons_succ, List.set_cons_zero]; go_big_quiet_on) | (go_big_quiet_op; first | go_big_quiet_on | (apply Exists.intro; refine ⟨fun W hW => ?_, ?_⟩; (first | exact rfl); go_big_quiet_on))))
            refine wpQuiet_nil ?_
            intro w5 hw5
            have hb5 := hbq.trans (Below.mono (show Below wq.heap.size wq w5 from hw5) hbq.size)
            clear hex hw5
            go_wp2
            go_ret2
            exact ⟨by rw [HB.out, HK.out]; simp [Hz.out], hb5⟩
      · as_aux_lemma =>
        rw [Bool.not_eq_true] at hp
        have hfi : i + 1 ≤ findN L t := by
          rcases Nat.lt_or_ge i (findN L t) with h1 | h1
          · exact h1
          · have e : findN L t = i := by omega
            have h2 := findN_at L t (by omega)
            simp only [e] at h2
            rw [h2] at hp; exact absurd hp (by simp)
        rw [hp] at HX
        clear hp hif
        generalize L[i] = x at *
        unfold Ent.z at HX
        go_wp2_with (fail)
        have hex := Grew.all wr
        refine wp_region_grew (by kernel_rfl) (by kernel_rfl) ?_
        repeat (first | go_big_quiet_skip | (go_big_quiet_want; first | (refine quiet_load_mid 32 _ rfl _ _ rfl [.int .i64 t.1, .int .i64 t.2] _ (fun W hW => range2 (Grew.cell hW k0) (Grew.cell hW k1)) Try.underlying32 rfl (by kernel_rfl) ?_; simp only [Act.put, List.setIfInBounds_toArray, List.set_cons_succ, List.set_cons_zero]; go_big_quiet_on) | (refine quiet_load_mid 32 _ rfl _ _ rfl [.int .i64 x.e, .int .i64 x.c] _ (fun W hW => range2 (Grew.cell hW e0) (Grew.cell hW e1)) Try.underlying32 rfl (by kernel_rfl) ?_; simp only [Act.put, List.setIfInBounds_toArray, List.set_cons_succ, List.set_cons_zero]; go_big_quiet_on) | (go_big_quiet_op; first | go_big_quiet_on | (apply Exists.intro; refine ⟨fun W hW => ?_, ?_⟩; (first | exact rfl | (go_at_call 43; with_reducible exact Calls.grew hW (HX.out _))); go_big_quiet_on))))
        refine wpQuiet_nil ?_
        intro wq hw4
        have hbq := hbr.trans (Below.mono (show Below wr.heap.size wr wq from hw4) (by have := hbr.size; simp at this; omega))
        clear hex hw4 e0 e1 e2 hbr hbw HX k0 k1
        go_wp2
        go_roundw
        case rel => exact ⟨i + 1, by go_num, by omega, hfi, hbq⟩
        case measure => simp [intOf]; omega
    · have hd : decide (i < L.length) = false := decide_eq_false h
      have hfi : findN L t = i := by have := findN_le L t; omega
      clear hif
      go_wp2_with (fail)
      have hex := Grew.all wr
      refine wp_region_grew (by kernel_rfl) (by kernel_rfl) ?_
      repeat (first | go_big_quiet_skip | (go_big_quiet_want; first | (refine fail ?_; simp only [Act.put, List.setIfInBounds_toArray, List.set_cons_succ, List.set_cons_zero]; go_big_quiet_on) | (go_big_quiet_op; first | go_big_quiet_on | (apply Exists.intro; refine ⟨fun W hW => ?_, ?_⟩; (first | exact rfl); go_big_quiet_on))))
      refine wpQuiet_nil ?_
      intro wq hw4
      have k0 := Grew.cell hw4 k0
      have k1 := Grew.cell hw4 k1
      have hbq : Below w.heap.size w wq := hbw.trans (Below.mono (show Below wr.heap.size wr wq from hw4) hbw.size)
      clear hex hw4 hbr hbw HLs HK1 hb1 hk
      have hfl := findN_le L t
      rcases Nat.eq_zero_or_pos i with h0 | h0
      · as_aux_lemma =>
        subst h0
        have HB : Hid (findB L t = false) := findB_none L t hfi
        have HK := Lib.hid hfi
        clear hfi hfl
        go_wp2
        have hex := Grew.all wq
        refine wp_region_grew (by kernel_rfl) (by kernel_rfl) ?_
        repeat (first | go_big_quiet_skip | (go_big_quiet_want; first | (refine fail ?_; simp only [Act.put, List.setIfInBounds_toArray, List.set_cons_succ, List.set_cons_zero]; go_big_quiet_on) | (go_big_quiet_op; first | go_big_quiet_on | (apply Exists.intro; refine ⟨fun W hW => ?_, ?_⟩; (first | exact rfl); go_big_quiet_on))))
        refine wpQuiet_nil ?_
        intro w5 hw5
        have hb5 := hbq.trans (Below.mono (show Below wq.heap.size wq w5 from hw5) hbq.size)
        clear hex hw5
        go_wp2
        go_ret2
        exact ⟨by rw [HB.out, HK.out]; rfl, hb5⟩
      · have hi1 : i - 1 < L.length := by omega
        obtain ⟨bb, off, ha, e0, e1, e2⟩ := ents_get (hL.grew hbq) (i - 1) hi1
        first | subst ha | (simp only [Option.some.injEq, Addr.mk.injEq, and_true] at ha; obtain ⟨rfl, rfl⟩ := ha)
        have HB := Lib.hid (findB_of L t (i - 1) (by omega) hi1)
        have HK := Lib.hid hfi
        clear hfi hfl
        generalize L[i - 1] = x at *
        have d0 : decide (0 < (i : Int)) = true := by simp; omega
        have d1 : (1 : Int) ≤ (i : Int) := by omega
        rcases zx_cases x.z t with ⟨hz, b0, b1⟩ | ⟨hz, b0, b1⟩ | ⟨hz, b0⟩
        all_goals
          as_aux_lemma =>
          have Hz := Lib.hid hz
          clear hz
          unfold Ent.z at b0
          try unfold Ent.z at b1
          go_wp2
          have hex := Grew.all wq
          refine wp_region_grew (by kernel_rfl) (by kernel_rfl) ?_
          repeat (first | go_big_quiet_skip | (go_big_quiet_want; first | (refine quiet_load_mid 32 _ rfl _ _ rfl [.int .i64 t.1, .int .i64 t.2] _ (fun W hW => range2 (Grew.cell hW k0) (Grew.cell hW k1)) Try.underlying32 rfl (by kernel_rfl) ?_; simp only [Act.put, List.setIfInBounds_toArray, List.set_cons_succ, List.set_cons_zero]; go_big_quiet_on) | (refine quiet_load_mid 32 _ rfl _ _ rfl [.int .i64 x.e, .int .i64 x.c] _ (fun W hW => range2 (Grew.cell hW e0) (Grew.cell hW e1)) Try.underlying32 rfl (by kernel_rfl) ?_; simp only [Act.put, List.setIfInBounds_toArray, List.set_cons_succ, List.set_cons_zero]; go_big_quiet_on) | (go_big_quiet_op; first | go_big_quiet_on | (apply Exists.intro; refine ⟨fun W hW => ?_, ?_⟩; (first | exact rfl); go_big_quiet_on))))
          refine wpQuiet_nil ?_
          intro w5 hw5
          have hb5 := hbq.trans (Below.mono (show Below wq.heap.size wq w5 from hw5) hbq.size)
          clear hex hw5
          go_wp2
          go_ret2
          exact ⟨by rw [HB.out, HK.out]; simp [Hz.out], hb5⟩
end Go.Proofs.Ytaahbfcnccmcoaa
