/- The walks of the law's example and of hist.Last. Conditions: as each theorem says. -/
import Derived.Test.YtaahbfcnccmcoaaHistL
namespace Go.Proofs.Ytaahbfcnccmcoaa
open Go.RowKit

/-- A history's last number. -/
def lastZ (L : List Ent) : Int × Int := match L.getLast? with | some x => x.z | none => (0, 0)
theorem own_form {w : World} {base n : Nat} {v : Value} {L : List Ent} (h : w.ownsRow base 28 3 v n (entRow L)) : n = L.length ∧ ∃ a cap, v = .slice a n cap ∧ n ≤ cap ∧ cap ≤ maxLen ∧ EntsAt w v L := by
  have hl := h.1
  rw [entRow_length] at hl
  obtain rfl : n = L.length := by omega
  have hE := ents_own h
  rcases h.2 with ⟨rfl, h0⟩ | ⟨g, cap, cur, rfl, _, _, h1, h2, _⟩
  · exact ⟨rfl, none, 0, by rw [h0], by omega, by simp, hE⟩
  · exact ⟨rfl, _, cap, rfl, h1, h2, hE⟩
theorem plan_n (L : List Ent) (n : Nat) (hnl : n = L.length) (a : Option Addr) (cap : Nat) (begin last : Int × Int) (w : World) (hL : EntsAt w (.slice a n cap) L) (hn : n ≤ 1000000) (hlc : n ≤ cap) :
    Calls Try.prog 16 #[.slice a n cap, .agg #[.int .i64 begin.1, .int .i64 begin.2], .agg #[.int .i64 last.1, .int .i64 last.2]] w fun e w' =>
      ∃ v, e = .returned (.tuple #[.int .i64 (planP L begin last).1, .agg #[.int .i64 (planP L begin last).2.1.1, .int .i64 (planP L begin last).2.1.2], v]) ∧ w'.ownsRow w.heap.size 28 3 v (planP L begin last).2.2.length (entRow (planP L begin last).2.2) ∧ Below w.heap.size w w' := by
  subst hnl
  exact plan_any L a cap begin last w hL hn hlc
theorem plan_ex1 (a : Option Addr) (cap : Nat) (w : World) (hL : EntsAt w (.slice a 3 cap) (rowN 3)) (hlc : 3 ≤ cap) :
    Calls Try.prog 16 #[.slice a 3 cap, .agg #[.int .i64 0, .int .i64 0], .agg #[.int .i64 1, .int .i64 2]] w fun e w' =>
      ∃ a2 c2, e = .returned (.tuple #[.int .i64 1, .agg #[.int .i64 1, .int .i64 2], .slice a2 1 c2]) ∧ Below w.heap.size w w' := by
  refine (plan_n (rowN 3) 3 rfl a cap (0, 0) (1, 2) w hL (by omega) hlc).mono ?_
  rintro e w' ⟨v, he, hown, hb⟩
  have hp : planP (rowN 3) (0, 0) (1, 2) = (1, (1, 2), [⟨1, 3, []⟩]) := by decide +kernel
  rw [hp] at he hown
  obtain ⟨_, a2, c2, rfl, _⟩ := own_form hown
  exact ⟨a2, c2, he, hb⟩
theorem plan_ex2 (a : Option Addr) (cap : Nat) (w : World) (hL : EntsAt w (.slice a 3 cap) (rowN 3)) (hlc : 3 ≤ cap) :
    Calls Try.prog 16 #[.slice a 3 cap, .agg #[.int .i64 0, .int .i64 0], .agg #[.int .i64 1, .int .i64 9]] w fun e w' =>
      ∃ a2 c2, e = .returned (.tuple #[.int .i64 2, .agg #[.int .i64 1, .int .i64 3], .slice a2 0 c2]) ∧ Below w.heap.size w w' := by
  refine (plan_n (rowN 3) 3 rfl a cap (0, 0) (1, 9) w hL (by omega) hlc).mono ?_
  rintro e w' ⟨v, he, hown, hb⟩
  have hp : planP (rowN 3) (0, 0) (1, 9) = (2, (1, 3), []) := by decide +kernel
  rw [hp] at he hown
  obtain ⟨_, a2, c2, rfl, _⟩ := own_form hown
  exact ⟨a2, c2, he, hb⟩
theorem row3 (w : World) : Calls Try.prog 41 #[.int .i64 3] w fun e w' => ∃ a c, e = .returned (.slice a 3 c) ∧ 3 ≤ c ∧ EntsAt w' (.slice a 3 c) (rowN 3) ∧ Below w.heap.size w w' := by
  refine (row_any 3 (by omega) w).mono ?_
  rintro e w' ⟨v, he, hown, hb⟩
  obtain ⟨_, a2, c2, rfl, h1, _, h2⟩ := own_form hown
  exact ⟨a2, c2, he, h1, h2, hb⟩
set_option maxRecDepth 100000 in
set_option maxHeartbeats 800000 in
theorem awake_any (w : World) : Calls Try.prog 15 #[] w fun e w' => e = .returned (.bool true) ∧ Below w.heap.size w w' := by
  go_enter Try.func15, Try.ntmps15
  go_wp2_with (fail)
  refine (row3 _).mono ?_
  rintro e w1 ⟨a1, c1, rfl, hc1, hE1, hb1⟩
  go_wp2_with (fail)
  refine (plan_ex1 a1 c1 _ hE1 hc1).mono ?_
  rintro e w2 ⟨a2, c2, rfl, hb2⟩
  have hb2 := hb1.trans (hb2.mono hb1.size)
  clear hE1 hb1
  go_wp2_with (fail)
  refine (row3 _).mono ?_
  rintro e w3 ⟨a3, c3, rfl, hc3, hE3, hb3⟩
  have hk := Grew.at_ hb3 (heap_alloc_new w2 _)
  have hb4 := (hb2.alloc hb2.size _).trans (hb3.mono (by have := hb2.size; simp; omega))
  clear hb3
  go_wp2_with (fail)
  refine (plan_ex2 a3 c3 _ hE3 hc3).mono ?_
  rintro e w5 ⟨a5, c5, rfl, hb5⟩
  have hk5 := Grew.at_ hb5 hk
  have c0 : ∀ o, (w5.alloc o).cell? ⟨w2.heap.size, 1, none⟩ = some (.int .i64 2) := fun o => Grew.cell ((Below.refl _ w5).alloc (Nat.le_refl _) o) (by rw [Lib.cell_of_heap hk5]; rfl)
  have hb6 := hb4.trans (hb5.mono hb4.size)
  clear hk hk5 hE3 hb5
  go_wp2
  go_ret
  exact ⟨rfl, hb6.alloc hb6.size _⟩

end Go.Proofs.Ytaahbfcnccmcoaa
