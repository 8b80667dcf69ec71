/- The walks of the law's example and of hist.Last. Conditions: as each theorem says. -/
import Derived.Test.YtkidhbflojlmoaaGreatHistL
namespace Go.Proofs.YtkidhbflojlmoaaGreat
open Go.RowKit

/-- A history's last number. -/
def lastZ (L : List Ent) : Int × Int := match L.getLast? with | some x => x.z | none => (0, 0)
theorem own_form {w : World} {base n : Nat} {v : Value} {L : List Ent} (h : w.ownsRow base 72 3 v n (entRow L)) : n = L.length ∧ ∃ a cap, v = .slice a n cap ∧ n ≤ cap ∧ cap ≤ maxLen ∧ EntsAt w v L := by
  have hl := h.1
  rw [entRow_length] at hl
  obtain rfl : n = L.length := by omega
  have hE := ents_own h
  rcases h.2 with ⟨rfl, h0⟩ | ⟨g, cap, cur, rfl, _, _, h1, h2, _⟩
  · exact ⟨rfl, none, 0, by rw [h0], by omega, by simp, hE⟩
  · exact ⟨rfl, _, cap, rfl, h1, h2, hE⟩
theorem plan_n (L : List Ent) (n : Nat) (hnl : n = L.length) (a : Option Addr) (cap : Nat) (begin last : Int × Int) (w : World) (hL : EntsAt w (.slice a n cap) L) (hn : n ≤ 1000000) (hlc : n ≤ cap) :
    Calls Tryz.prog 109 #[.slice a n cap, .agg #[.int .i64 begin.1, .int .i64 begin.2], .agg #[.int .i64 last.1, .int .i64 last.2]] w fun e w' =>
      ∃ v, e = .returned (.tuple #[.int .i64 (planP L begin last).1, .agg #[.int .i64 (planP L begin last).2.1.1, .int .i64 (planP L begin last).2.1.2], v]) ∧ w'.ownsRow w.heap.size 72 3 v (planP L begin last).2.2.length (entRow (planP L begin last).2.2) ∧ Below w.heap.size w w' := by
  subst hnl
  exact plan_any L a cap begin last w hL hn hlc
theorem plan_ex1 (a : Option Addr) (cap : Nat) (w : World) (hL : EntsAt w (.slice a 3 cap) (rowN 3)) (hlc : 3 ≤ cap) :
    Calls Tryz.prog 109 #[.slice a 3 cap, .agg #[.int .i64 0, .int .i64 0], .agg #[.int .i64 1, .int .i64 2]] w fun e w' =>
      ∃ a2 c2, e = .returned (.tuple #[.int .i64 1, .agg #[.int .i64 1, .int .i64 2], .slice a2 1 c2]) ∧ Below w.heap.size w w' := by
  refine (plan_n (rowN 3) 3 rfl a cap (0, 0) (1, 2) w hL (by omega) hlc).mono ?_
  rintro e w' ⟨v, he, hown, hb⟩
  have hp : planP (rowN 3) (0, 0) (1, 2) = (1, (1, 2), [⟨1, 3, []⟩]) := by decide +kernel
  rw [hp] at he hown
  obtain ⟨_, a2, c2, rfl, _⟩ := own_form hown
  exact ⟨a2, c2, he, hb⟩
theorem plan_ex2 (a : Option Addr) (cap : Nat) (w : World) (hL : EntsAt w (.slice a 3 cap) (rowN 3)) (hlc : 3 ≤ cap) :
    Calls Tryz.prog 109 #[.slice a 3 cap, .agg #[.int .i64 0, .int .i64 0], .agg #[.int .i64 1, .int .i64 9]] w fun e w' =>
      ∃ a2 c2, e = .returned (.tuple #[.int .i64 2, .agg #[.int .i64 1, .int .i64 3], .slice a2 0 c2]) ∧ Below w.heap.size w w' := by
  refine (plan_n (rowN 3) 3 rfl a cap (0, 0) (1, 9) w hL (by omega) hlc).mono ?_
  rintro e w' ⟨v, he, hown, hb⟩
  have hp : planP (rowN 3) (0, 0) (1, 9) = (2, (1, 3), []) := by decide +kernel
  rw [hp] at he hown
  obtain ⟨_, a2, c2, rfl, _⟩ := own_form hown
  exact ⟨a2, c2, he, hb⟩
end Go.Proofs.YtkidhbflojlmoaaGreat
