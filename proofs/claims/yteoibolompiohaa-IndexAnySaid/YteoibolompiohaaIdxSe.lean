/- The walks of kind and same, a call's cells. Conditions: as each theorem says. -/
import Derived.Test.YteoibolompiohaaIdxSd
namespace Go.Proofs.Yteoibolompiohaa
open Go.RowKit

structure Opr where
  kind : Int
  key : Key
  n : Int
deriving Inhabited
def oprCells (o : Opr) : List Value := [.int .i64 o.kind, .string (bs o.key), .int .i64 o.n]
def oprV (o : Opr) : Value := .agg #[.int .i64 o.kind, .string (bs o.key), .int .i64 o.n]
def kindI (k : Int) : Int := (k.tmod 4 + 4) % 4
set_option maxRecDepth 100000 in
theorem kind_any (o : Opr) (w : World) : Calls Try.prog 24 #[oprV o] w fun e w' => e = .returned (.int .i64 (kindI o.kind)) ∧ Below w.heap.size w w' := by
  have hb := alloc_below w (.cells #[.int .i64 o.kind, .string (bs o.key), .int .i64 o.n] 29)
  have HB := Lib.hid hb
  have h1 : -4 < o.kind.tmod 4 := by
    have := Int.lt_tmod_of_pos o.kind (show (0 : Int) < 4 by omega)
    omega
  have h2 : o.kind.tmod 4 < 4 := Int.tmod_lt_of_pos o.kind (by omega)
  have w1 : IntKind.i64.wrap (o.kind.tmod 4) = o.kind.tmod 4 := IntWalk.i64_in _ (by omega)
  have w2 : IntKind.i64.wrap (o.kind.tmod 4 + 4) = o.kind.tmod 4 + 4 := IntWalk.i64_in _ (by omega)
  clear hb
  unfold oprV kindI
  go_enter Try.func24, Try.ntmps24
  go_wp2
  go_ret
  exact ⟨rfl, HB.out⟩
set_option maxRecDepth 100000 in
set_option maxHeartbeats 1000000 in
theorem same_any (L : List Pr) (a1 a2 : Option Addr) (c1 c2 : Nat) (hL : L.length ≤ 1000000) (w : World) (h1 : RowsAt 2 prCells w (.slice a1 L.length c1) L) (h2 : RefAt L (.slice a2 L.length c2) w) :
    Calls Try.prog 12 #[.slice a1 L.length c1, .slice a2 L.length c2] w fun e w' => e = .returned (.bool true) ∧ Below w.heap.size w w' := by
  have HG1 : Hid (∀ i (hi : i < L.length), ∃ b off, a1 = some ⟨b, off, none⟩ ∧ w.cell? ⟨b, off + i * 2, none⟩ = some (.string (bs (L[i]).1)) ∧ w.cell? ⟨b, off + i * 2 + 1, none⟩ = some (.int .i64 (L[i]).2)) := Lib.hid (fun i hi => by
    obtain ⟨b, off, e, hr⟩ := RowsAt.get h1 i hi
    have r0 := hr 0 _ rfl
    rw [Nat.add_zero] at r0
    exact ⟨b, off, e, r0, hr 1 _ rfl⟩)
  have HG2 := Lib.hid (RefAt.get h2).2
  have hle : (((L.length : Nat) : Int) == (L.length : Int)) = true := beq_self_eq_true _
  clear h1 h2
  go_enter Try.func12, Try.ntmps12
  go_wp2
  go_loopg [5] L.length (fun gk v5 wr => ∃ i : Nat, v5 = .int .i64 (i : Int) ∧ i + gk = L.length ∧ Below w.heap.size w wr)
  case atStart => exact ⟨0, rfl, by omega, Below.refl _ _⟩
  case round =>
    obtain ⟨i, rfl, hi, hB⟩ := hrel
    by_cases hlt : i < L.length
    · obtain ⟨b, off, rfl, k0, k1⟩ := HG1.out i hlt
      obtain ⟨b2, rfl, k2, k3⟩ := HG2.out i hlt
      have k0 := Grew.cell hB k0
      have k1 := Grew.cell hB k1
      have k2 := Grew.cell hB k2
      have k3 := Grew.cell hB k3
      have hil : (i : Int) < (L.length : Int) := by omega
      have hi6 : (i : Int) ≤ 1000000 := by omega
      have e0 : ((bs (L[i]).1).toList == (bs (L[i]).1).toList) = true := beq_self_eq_true _
      have e1 : ((L[i]).2 == (L[i]).2) = true := beq_self_eq_true _
      have e2 : ((L[i]).2 != (L[i]).2) = false := by simp
      have e3 : ((bs (L[i]).1).toList != (bs (L[i]).1).toList) = false := by simp
      generalize L[i] = x at *
      have HB := Lib.hid hB
      clear hB
      go_wp2_with (fail)
      go_quiet (fail)
      have HB2 := Lib.hid (HB.out.trans (drewN_below wr nq HB.out.size))
      go_wp2
      go_roundg (gk - 1)
      case rel => exact ⟨i + 1, by go_num, by omega, HB2.out⟩
      case measure => omega
    · go_wp2
      go_ret
      exact ⟨rfl, hB⟩
end Go.Proofs.Yteoibolompiohaa
