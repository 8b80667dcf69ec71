/- The walks of hist.Right, hist.Last. Conditions: as each theorem says. -/
import Derived.Test.YtkidhbflojlmoaaGreatHistF
import Derived.Lib.BufferAt
namespace Go.Proofs.YtkidhbflojlmoaaGreat
open Go.RowKit

def ZAt (g : Nat) (t : Int × Int) (w : World) : Prop := w.heap[g]? = some (.cells #[.int .i64 t.1, .int .i64 t.2] 41 (0, 0))
theorem rightL_cons (last : Int × Int) (x : Ent) (r : List Ent) : rightL last (x :: r) = (decide (1 ≤ x.e) && decide (1 ≤ x.c) && lessZ last x.z && rightL x.z r) := rfl
theorem rightL_at (last : Int × Int) (L : List Ent) (i : Nat) (hi : i < L.length) : rightL last (L.drop i) = (decide (1 ≤ L[i].e) && decide (1 ≤ L[i].c) && lessZ last L[i].z && rightL L[i].z (L.drop (i + 1))) := by
  rw [List.drop_eq_getElem_cons hi]; rfl
set_option maxRecDepth 100000 in
set_option maxHeartbeats 400000 in
theorem right_any (L : List Ent) (a : Option Addr) (cap : Nat) (w : World) (hL : EntsAt w (.slice a L.length cap) L) (hn : L.length ≤ 9223372036854775807) :
    Calls Tryz.prog 51 #[.slice a L.length cap] w fun e w' => e = .returned (.bool (rightL (0, 0) L)) ∧ Below w.heap.size w w' := by
  go_enter Tryz.func51, Tryz.ntmps51
  go_wp2
  go_loopw [8] (fun vi wr => ∃ (i : Nat) (last : Int × Int), vi = .int .i64 i ∧ i ≤ L.length ∧ ZAt w.heap.size last wr ∧ Below w.heap.size w wr ∧ rightL (0, 0) L = rightL last (L.drop i)) (fun vi _ => L.length - (intOf vi).toNat)
  case atStart => exact ⟨0, (0, 0), rfl, by omega, heap_alloc_new w _, (Below.refl _ w).alloc (Nat.le_refl _) _, rfl⟩
  case round =>
    obtain ⟨i, last, rfl, hi, hz, hbr, hr⟩ := hrel
    have HR := Lib.hid hr
    clear hr
    by_cases h : i < L.length
    · obtain ⟨bb, off, rfl, hcell⟩ := ents_get (hL.grew hbr) i h
      obtain ⟨c0, c1, c2⟩ := hcell
      have HA := Lib.hid (rightL_at last L i h)
      generalize L[i] = x at *
      by_cases h1 : x.e < 1
      · as_aux_lemma =>
        have HF : Hid (rightL (0, 0) L = false) := by
          show _ = _
          rw [HR.out, HA.out, decide_eq_false (by omega)]; rfl
        go_wp2_with (fail)
        go_ret
        exact ⟨by rw [HF.out]; rfl, hbr.alloc hbr.size _⟩
      · by_cases h2 : x.c < 1
        · as_aux_lemma =>
          have HF : Hid (rightL (0, 0) L = false) := by
            show _ = _
            rw [HR.out, HA.out, decide_eq_false (p := 1 ≤ x.c) (by omega), Bool.and_false]; rfl
          go_wp2_with (fail)
          go_ret
          exact ⟨by rw [HF.out]; rfl, hbr.alloc hbr.size _⟩
        · have hz0 : ∀ o, (wr.alloc o).cell? ⟨w.heap.size, 0, none⟩ = some (.int .i64 last.1) := fun o => Grew.cell ((Below.refl _ wr).alloc (Nat.le_refl _) o) (by rw [Lib.cell_of_heap hz]; rfl)
          have hz1 : ∀ o, (wr.alloc o).cell? ⟨w.heap.size, 1, none⟩ = some (.int .i64 last.2) := fun o => Grew.cell ((Below.refl _ wr).alloc (Nat.le_refl _) o) (by rw [Lib.cell_of_heap hz]; rfl)
          have HLess := Lib.hid (fun w2 => less_any last x.z w2)
          unfold zxidV Ent.z at HLess
          have HA2 : Hid (rightL (0, 0) L = (lessZ last (x.e, x.c) && rightL x.z (L.drop (i + 1)))) := by
            show _ = _
            rw [HR.out, HA.out, decide_eq_true (p := 1 ≤ x.e) (by omega), decide_eq_true (p := 1 ≤ x.c) (by omega)]; rfl
          by_cases hl : lessZ last (x.e, x.c) = true
          · as_aux_lemma =>
            rw [hl] at HA2
            have HL2 := Lib.hid hl
            clear hl
            go_wp2_with (fail)
            refine (HLess.out _).mono ?_
            rintro e w3 ⟨rfl, hb3⟩
            rw [HL2.out]
            have hxb := Grew.at_ hb3 (heap_alloc_new wr _)
            have hzb := Grew.at_ hb3 (Grew.at_ ((Below.refl _ wr).alloc (Nat.le_refl _) _) hz)
            have x0 : w3.cell? ⟨wr.heap.size, 0, none⟩ = some (.int .i64 x.e) := by rw [Lib.cell_of_heap hxb]; rfl
            have x1 : w3.cell? ⟨wr.heap.size, 1, none⟩ = some (.int .i64 x.c) := by rw [Lib.cell_of_heap hxb]; rfl
            have z0 : w3.cell? ⟨w.heap.size, 0, none⟩ = some (.int .i64 last.1) := by rw [Lib.cell_of_heap hzb]; rfl
            have z1 : w3.cell? ⟨w.heap.size, 1, none⟩ = some (.int .i64 last.2) := by rw [Lib.cell_of_heap hzb]; rfl
            have fz0 : w3.frozen? ⟨w.heap.size, 0, none⟩ = false := Lib.frozen_of_heap hzb 0
            have fz1 : w3.frozen? ⟨w.heap.size, 1, none⟩ = false := Lib.frozen_of_heap hzb 1
            have B3 : Below w.heap.size w w3 := (hbr.alloc hbr.size _).trans (hb3.mono (by have := hbr.size; simp; omega))
            clear hz0 hz1 hxb c0 c1 c2 hb3
            have hset : ZAt w.heap.size x.z ((w3.setCell ⟨w.heap.size, 0, none⟩ (.int .i64 x.e)).setCell ⟨w.heap.size, 1, none⟩ (.int .i64 x.c)) := by
              have g0 := Lib.heap_setCell_same (i := 0) hzb (.int .i64 x.e)
              have g1 := Lib.heap_setCell_same (i := 1) g0 (.int .i64 x.c)
              exact g1
            have B4 : Below w.heap.size w ((w3.setCell ⟨w.heap.size, 0, none⟩ (.int .i64 x.e)).setCell ⟨w.heap.size, 1, none⟩ (.int .i64 x.c)) :=
              (B3.setCell (p := ⟨w.heap.size, 0, none⟩) (Nat.le_refl _) _).setCell (p := ⟨w.heap.size, 1, none⟩) (Nat.le_refl _) _
            have HS := Lib.hid hset
            have HB4 := Lib.hid B4
            clear hset B4 hzb
            go_wp2
            go_roundw
            case rel => exact ⟨i + 1, x.z, by go_num, by omega, HS.out, HB4.out, HA2.out⟩
            case measure => simp [intOf]; omega
          · as_aux_lemma =>
            rw [Bool.not_eq_true] at hl
            rw [hl] at HA2
            have HL2 := Lib.hid hl
            clear hl
            go_wp2_with (fail)
            refine (HLess.out _).mono ?_
            rintro e w3 ⟨rfl, hb3⟩
            rw [HL2.out]
            have B3 : Below w.heap.size w w3 := (hbr.alloc hbr.size _).trans (hb3.mono (by have := hbr.size; simp; omega))
            go_wp2
            go_ret
            exact ⟨by rw [HA2.out]; rfl, B3⟩
    · as_aux_lemma =>
      have HF : Hid (rightL (0, 0) L = true) := by
        show _ = _
        rw [HR.out, List.drop_eq_nil_of_le (by omega)]; rfl
      go_wp2
      go_ret
      exact ⟨by rw [HF.out]; rfl, hbr⟩
end Go.Proofs.YtkidhbflojlmoaaGreat
