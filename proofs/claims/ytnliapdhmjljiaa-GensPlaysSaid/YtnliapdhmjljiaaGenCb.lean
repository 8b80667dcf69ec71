/- The walks of slices.IndexFunc and slices.DeleteFunc over generations. Conditions: as each theorem says. -/
import Derived.Test.YtnliapdhmjljiaaGenCa
namespace Go.Proofs.Ytnliapdhmjljiaa
open Go.RowKit

theorem gone_any (g : Gn) (a : Option Addr) (n c : Nat) (rev : Int) (B : Nat) (w : World) (hB : w.cell? ⟨B, 0, none⟩ = some (.int .i64 rev)) :
    Calls Try.prog 31 #[.agg #[.int .i64 g.cr, .int .i64 g.cut, .slice a n c, .int .i64 g.fin], .pointer (some ⟨B, 0, none⟩)] w fun e w' => e = .returned (.bool (goneG rev g)) ∧ Below w.heap.size w w' := by
  have hgone : goneG rev g = (decide (0 < g.fin) && decide (g.fin ≤ rev)) := rfl
  have HGo := Lib.hid hgone
  generalize goneG rev g = gb at *
  have hlt : B < w.heap.size := block_lt_of_cell hB
  clear hgone
  by_cases hf : 0 < g.fin
  · have df : decide (0 < g.fin) = true := decide_eq_true hf
    by_cases hr : g.fin ≤ rev
    · have dr : decide (g.fin ≤ rev) = true := decide_eq_true hr
      go_enter Try.func31, Try.ntmps31
      go_wp2
      go_ret
      exact ⟨by rw [HGo.out, df, dr]; rfl, alloc_below w _⟩
    · have dr : decide (g.fin ≤ rev) = false := decide_eq_false hr
      go_enter Try.func31, Try.ntmps31
      go_wp2
      go_ret
      exact ⟨by rw [HGo.out, df, dr]; rfl, alloc_below w _⟩
  · have df : decide (0 < g.fin) = false := decide_eq_false hf
    go_enter Try.func31, Try.ntmps31
    go_wp2
    go_ret
    exact ⟨by rw [HGo.out, df]; rfl, alloc_below w _⟩
def keepP (rev : Int) (p : Gn × Value) : Bool := !goneG rev p.1
/-- The first generation that is gone. -/
def firstG (rev : Int) (L : List (Gn × Value)) : Nat := (L.takeWhile (keepP rev)).length
theorem firstG_le (rev : Int) (L : List (Gn × Value)) : firstG rev L ≤ L.length := by unfold firstG; exact (List.takeWhile_sublist _).length_le
theorem firstG_cons (rev : Int) (p : Gn × Value) (L : List (Gn × Value)) : firstG rev (p :: L) = if keepP rev p = true then firstG rev L + 1 else 0 := by
  unfold firstG
  rw [List.takeWhile_cons]
  by_cases h : keepP rev p = true <;> simp [h]
theorem firstG_step (rev : Int) : ∀ (L : List (Gn × Value)) (k : Nat) (hk : k < L.length), k ≤ firstG rev L → (goneG rev L[k].1 = true → firstG rev L = k) ∧ (goneG rev L[k].1 = false → k + 1 ≤ firstG rev L) := by
  intro L
  induction L with
  | nil => intro k hk; simp at hk
  | cons p L ih =>
    intro k hk h
    rw [firstG_cons] at h ⊢
    cases k with
    | zero =>
      simp only [List.getElem_cons_zero]
      constructor
      · intro e; rw [if_neg (by unfold keepP; rw [e]; simp)]
      · intro e; rw [if_pos (by unfold keepP; rw [e]; rfl)]; omega
    | succ k =>
      by_cases hp : keepP rev p = true
      · rw [if_pos hp] at h ⊢
        obtain ⟨i1, i2⟩ := ih k (by simpa using hk) (by omega)
        simp only [List.getElem_cons_succ]
        exact ⟨fun e => by rw [i1 e], fun e => by have := i2 e; omega⟩
      · rw [if_neg hp] at h; omega
theorem firstG_filter (rev : Int) : ∀ (L : List (Gn × Value)) (k : Nat), k ≤ firstG rev L → (L.take k).filter (keepP rev) = L.take k := by
  intro L
  induction L with
  | nil => intro k _; simp
  | cons p L ih =>
    intro k h
    rw [firstG_cons] at h
    cases k with
    | zero => simp
    | succ k =>
      by_cases hp : keepP rev p = true
      · rw [if_pos hp] at h
        rw [List.take_succ_cons, List.filter_cons, if_pos hp, ih k (by omega)]
      · rw [if_neg hp] at h; omega
def idxGV (L : List (Gn × Value)) (rev : Int) : Int := if firstG rev L = L.length then -1 else (firstG rev L : Int)
/-- The cells of a slice of generations. -/
def GensAt (w : World) (a : Option Addr) (L : List (Gn × Value)) : Prop :=
  ∀ k (hk : k < L.length), ∃ g, a = some ⟨g, 0, none⟩ ∧ (w.cell? ⟨g, k * 4, none⟩ = some (.int .i64 L[k].1.cr) ∧ w.cell? ⟨g, k * 4 + 1, none⟩ = some (.int .i64 L[k].1.cut) ∧ w.cell? ⟨g, k * 4 + 2, none⟩ = some L[k].2 ∧ w.cell? ⟨g, k * 4 + 3, none⟩ = some (.int .i64 L[k].1.fin))
def SlicesOf (L : List (Gn × Value)) : Prop := ∀ k (hk : k < L.length), ∃ pa pn pc, L[k].2 = .slice pa pn pc
set_option maxRecDepth 100000 in
set_option maxHeartbeats 400000 in
theorem index38_any (a : Option Addr) (c : Nat) (L : List (Gn × Value)) (rev : Int) (B : Nat) (w : World) (hL : GensAt w a L) (hS : SlicesOf L) (hB : w.cell? ⟨B, 0, none⟩ = some (.int .i64 rev)) (hl : L.length ≤ 1000000) :
    Calls Try.prog 38 #[.slice a L.length c, .func (.func 31) #[] #[.pointer (some ⟨B, 0, none⟩)]] w fun e w' => e = .returned (.int .i64 (idxGV L rev)) ∧ Below w.heap.size w w' := by
  have HL := Lib.hid hL
  have HS := Lib.hid hS
  have HI : Hid (idxGV L rev = if firstG rev L = L.length then -1 else (firstG rev L : Int)) := by show _ = _; rfl
  have hfl := firstG_le rev L
  generalize idxGV L rev = iv at *
  clear hL hS
  go_enter Try.func38, Try.ntmps38
  go_wp2
  go_loopw [8] (fun i wr => ∃ k : Nat, k ≤ L.length ∧ k ≤ firstG rev L ∧ i = .int .i64 k ∧ Below w.heap.size w wr) (fun i _ => L.length - (intOf i).toNat)
  case atStart => exact ⟨0, Nat.zero_le _, Nat.zero_le _, rfl, Below.refl _ _⟩
  case round =>
    obtain ⟨k, hk, hkf, rfl, hbw⟩ := hrel
    by_cases hlt : k < L.length
    · obtain ⟨g, rfl, d0, d1, d2, d3⟩ := HL.out k hlt
      obtain ⟨pa, pn, pc, hv⟩ := HS.out k hlt
      rw [hv] at d2
      have c0 := Grew.cell hbw d0
      have c1 := Grew.cell hbw d1
      have c2 := Grew.cell hbw d2
      have c3 := Grew.cell hbw d3
      have hA := Lib.hid (gone_any L[k].1 pa pn pc rev B wr (Grew.cell hbw hB))
      obtain ⟨s1, s2⟩ := firstG_step rev L k hlt hkf
      have S1 := Lib.hid s1
      have S2 := Lib.hid s2
      have HBW := Lib.hid hbw
      clear HL HS d0 d1 d2 d3 hv s1 s2 hB hbw
      generalize L[k].1 = gn at *
      cases hg : goneG rev gn with
      | true =>
        rw [hg] at hA
        have HE := Lib.hid (S1.out hg)
        clear hg S1 S2
        go_wp2_with (go_at_call 31; (with_reducible refine hA.out.mono ?_); rintro e w1 ⟨rfl, hb1⟩)
        go_ret
        exact ⟨by rw [HI.out, HE.out, if_neg (by omega)]; rfl, HBW.out.trans (hb1.mono HBW.out.size)⟩
      | false =>
        rw [hg] at hA
        have hk1 := S2.out hg
        clear hg S1 S2
        go_wp2_with (go_at_call 31; (with_reducible refine hA.out.mono ?_); rintro e w1 ⟨rfl, hb1⟩)
        go_roundw
        case rel => exact ⟨k + 1, by omega, hk1, by go_num, HBW.out.trans (hb1.mono HBW.out.size)⟩
        case measure => simp [intOf]; omega
    · obtain rfl : k = L.length := by omega
      have he : firstG rev L = L.length := by omega
      have HE := Lib.hid he
      have HBW := Lib.hid hbw
      clear he hkf hbw hfl
      go_wp2
      go_ret
      exact ⟨by rw [HI.out, if_pos HE.out]; rfl, HBW.out⟩
end Go.Proofs.Ytnliapdhmjljiaa
