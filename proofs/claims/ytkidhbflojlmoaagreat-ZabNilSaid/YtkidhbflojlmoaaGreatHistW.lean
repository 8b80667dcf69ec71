/- The walks of histories' helpers. Conditions: as each theorem says. -/
import Derived.Test.YtkidhbflojlmoaaGreatHistP
namespace Go.Proofs.YtkidhbflojlmoaaGreat
open Go.RowKit

def zxidV (t : Int × Int) : Value := .agg #[.int .i64 t.1, .int .i64 t.2]
set_option maxRecDepth 100000 in
theorem less_any (a b : Int × Int) (w : World) :
    Calls Tryz.prog 26 #[zxidV a, zxidV b] w fun e w' => e = .returned (.bool (lessZ a b)) ∧ Below w.heap.size w w' := by
  obtain ⟨a1, a2⟩ := a
  obtain ⟨b1, b2⟩ := b
  have hb : ∀ o1 o2, Below w.heap.size w ((w.alloc o1).alloc o2) := fun o1 o2 => ((Below.refl _ w).alloc (Nat.le_refl _) _).alloc (by simp) _
  have HB := Lib.hid hb
  clear hb
  unfold zxidV
  by_cases h1 : a1 < b1
  · as_aux_lemma =>
    have hl : lessZ (a1, a2) (b1, b2) = true := by rw [lessZ_iff]; exact .inl h1
    rw [hl]
    go_enter Tryz.func26, Tryz.ntmps26
    go_wp2
    go_ret
    exact ⟨rfl, HB.out _ _⟩
  · by_cases h2 : a1 = b1
    · subst h2
      by_cases h3 : a2 < b2
      · as_aux_lemma =>
        have hl : lessZ (a1, a2) (a1, b2) = true := by rw [lessZ_iff]; exact .inr ⟨rfl, h3⟩
        rw [hl]
        go_enter Tryz.func26, Tryz.ntmps26
        go_wp2
        go_ret
        exact ⟨rfl, HB.out _ _⟩
      · as_aux_lemma =>
        have hl : lessZ (a1, a2) (a1, b2) = false := by rw [Bool.eq_false_iff]; intro h; rw [lessZ_iff] at h; simp only at h; omega
        rw [hl]
        go_enter Tryz.func26, Tryz.ntmps26
        go_wp2
        go_ret
        exact ⟨rfl, HB.out _ _⟩
    · as_aux_lemma =>
      have hl : lessZ (a1, a2) (b1, b2) = false := by rw [Bool.eq_false_iff]; intro h; rw [lessZ_iff] at h; simp only at h; omega
      have h3 : (a1 == b1) = false := by rw [beq_eq_false_iff_ne]; exact h2
      rw [hl]
      go_enter Tryz.func26, Tryz.ntmps26
      go_wp2
      go_ret
      exact ⟨rfl, HB.out _ _⟩

def fewE (L : List Ent) : Bool := decide (L.length ≤ 200) && L.all fun x => decide (x.b.length ≤ 1000)
def entV (x : Ent) : Value := .agg #[.int .i64 x.e, .int .i64 x.c, .string (bs x.b)]
/-- What IndexFunc answers. -/
def idxV (L : List Ent) (t : Int × Int) : Int := if findN L t < L.length then (findN L t : Int) else -1
set_option maxRecDepth 100000 in
theorem pred_any (x : Ent) (g : Nat) (t : Int × Int) (w : World) (h0 : w.cell? ⟨g, 0, none⟩ = some (.int .i64 t.1)) (h1 : w.cell? ⟨g, 1, none⟩ = some (.int .i64 t.2)) :
    Calls Tryz.prog 78 #[entV x, .pointer (some ⟨g, 0, none⟩)] w fun e w' => e = .returned (.bool (lessZ t x.z)) ∧ Below w.heap.size w w' := by
  have HL := Lib.hid (fun w2 => less_any t x.z w2)
  have hc0 : ∀ o, (w.alloc o).cell? ⟨g, 0, none⟩ = some (.int .i64 t.1) := fun o => Grew.cell ((Below.refl _ w).alloc (Nat.le_refl _) o) h0
  have hc1 : ∀ o, (w.alloc o).cell? ⟨g, 1, none⟩ = some (.int .i64 t.2) := fun o => Grew.cell ((Below.refl _ w).alloc (Nat.le_refl _) o) h1
  clear h0 h1
  unfold entV
  unfold zxidV Ent.z at HL
  go_enter Tryz.func78, Tryz.ntmps78
  go_wp2_with (fail)
  refine (HL.out _).mono ?_
  rintro e w2 ⟨rfl, hb2⟩
  go_wp2
  go_ret
  exact ⟨rfl, ((Below.refl _ w).alloc (Nat.le_refl _) _).trans (hb2.mono (by simp))⟩
set_option maxRecDepth 100000 in
set_option maxHeartbeats 400000 in
theorem index_any (L : List Ent) (a : Option Addr) (cap g : Nat) (t : Int × Int) (w : World) (hL : EntsAt w (.slice a L.length cap) L) (hn : L.length ≤ 9223372036854775807) (hg : w.heap[g]? = some (.cells #[.int .i64 t.1, .int .i64 t.2] 41 (0, 0))) :
    Calls Tryz.prog 77 #[.slice a L.length cap, .func (Fn.func 78) #[] #[.pointer (some ⟨g, 0, none⟩)]] w fun e w' => e = .returned (.int .i64 (idxV L t)) ∧ Below w.heap.size w w' := by
  go_enter Tryz.func77, Tryz.ntmps77
  go_wp2
  go_loopw [8] (fun vi wr => ∃ (i : Nat), vi = .int .i64 i ∧ i ≤ L.length ∧ i ≤ findN L t ∧ Below w.heap.size w wr) (fun vi _ => L.length - (intOf vi).toNat)
  case atStart => exact ⟨0, rfl, by omega, by omega, Below.refl _ _⟩
  case round =>
    obtain ⟨i, rfl, hi, hif, hbr⟩ := hrel
    by_cases h : i < L.length
    · obtain ⟨bb, off, rfl, hcell⟩ := ents_get (hL.grew hbr) i h
      obtain ⟨c0, c1, c2⟩ := hcell
      have hg2 := Grew.at_ hbr hg
      have HP := Lib.hid (pred_any L[i] g t wr (by rw [Lib.cell_of_heap hg2]; rfl) (by rw [Lib.cell_of_heap hg2]; rfl))
      unfold entV at HP
      clear hg hg2
      by_cases hp : lessZ t L[i].z = true
      · as_aux_lemma =>
        have hfi : findN L t = i := by
          rcases Nat.lt_or_ge i (findN L t) with h1 | h1
          · have := findN_below L t i h h1
            rw [this] at hp; exact absurd hp (by simp)
          · omega
        rw [hp] at HP
        have HF : Hid (idxV L t = (i : Int)) := by
          show _ = _
          unfold idxV
          rw [hfi, if_pos h]
        clear hfi hp
        go_wp2_with (fail)
        refine HP.out.mono ?_
        rintro e w2 ⟨rfl, hb2⟩
        go_wp2
        go_ret
        exact ⟨by rw [HF.out]; rfl, hbr.trans (hb2.mono hbr.size)⟩
      · as_aux_lemma =>
        rw [Bool.not_eq_true] at hp
        have hfi : i + 1 ≤ findN L t := by
          rcases Nat.lt_or_ge i (findN L t) with h1 | h1
          · exact h1
          · have e : findN L t = i := by omega
            have h2 := findN_at L t (by omega)
            simp only [e] at h2
            rw [h2] at hp; exact absurd hp (by simp)
        rw [hp] at HP
        clear hp
        go_wp2_with (fail)
        refine HP.out.mono ?_
        rintro e w2 ⟨rfl, hb2⟩
        have hb3 := hbr.trans (hb2.mono hbr.size)
        clear c0 c1 c2 hb2
        go_wp2
        go_roundw
        case rel => exact ⟨i + 1, by go_num, by omega, hfi, hb3⟩
        case measure => simp [intOf]; omega
    · as_aux_lemma =>
      have hfl := findN_le L t
      have HF : Hid (idxV L t = -1) := by
        show _ = _
        unfold idxV
        rw [if_neg (by omega)]
      go_wp2
      go_ret
      exact ⟨by rw [HF.out]; rfl, hbr⟩

theorem idxV_neg (L : List Ent) (t : Int × Int) (h : ¬ findN L t < L.length) : idxV L t = -1 := by unfold idxV; rw [if_neg h]
theorem idxV_pos (L : List Ent) (t : Int × Int) (h : findN L t < L.length) : idxV L t = (findN L t : Int) := by unfold idxV; rw [if_pos h]
theorem index_at (L : List Ent) (a : Option Addr) (cap : Nat) (t : Int × Int) (w : World) (hL : EntsAt w (.slice a L.length cap) L) (hn : L.length ≤ 9223372036854775807) :
    Calls Tryz.prog 77 #[.slice a L.length cap, .func (Fn.func 78) #[] #[.pointer (some ⟨w.heap.size, 0, none⟩)]] (w.alloc (.cells #[.int .i64 t.1, .int .i64 t.2] 41)) fun e w' => e = .returned (.int .i64 (idxV L t)) ∧ Below w.heap.size w w' ∧ w'.cell? ⟨w.heap.size, 0, none⟩ = some (.int .i64 t.1) ∧ w'.cell? ⟨w.heap.size, 1, none⟩ = some (.int .i64 t.2) := by
  have ha := (Below.refl _ w).alloc (Nat.le_refl _) (.cells #[.int .i64 t.1, .int .i64 t.2] 41)
  have hnew := heap_alloc_new w (.cells #[.int .i64 t.1, .int .i64 t.2] 41)
  refine (index_any L a cap w.heap.size t _ (hL.grew ha) hn hnew).mono ?_
  rintro e w2 ⟨rfl, hb2⟩
  have h2 := Grew.at_ hb2 hnew
  exact ⟨rfl, ha.trans (hb2.mono (by simp)), by rw [Lib.cell_of_heap h2]; rfl, by rw [Lib.cell_of_heap h2]; rfl⟩
end Go.Proofs.YtkidhbflojlmoaaGreat
