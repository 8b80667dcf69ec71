/- The walk of begins. Conditions: as each theorem says. -/
import Derived.Test.YtkidhbflojlmoaaGreatZabT
namespace Go.Proofs.YtkidhbflojlmoaaGreat
open Go.RowKit

set_option maxRecDepth 100000 in
theorem run_neq_ent (x y : Ent) (W : World) : (binOp .neq 72 (.agg #[.int .i64 x.e, .int .i64 x.c, .string (bs x.b)]) (.agg #[.int .i64 y.e, .int .i64 y.c, .string (bs y.b)])).run Tryz.prog W = .ok (.bool (!decide (x = y))) W := by
  obtain ⟨a0, a1, a2⟩ := x
  obtain ⟨b0, b1, b2⟩ := y
  go_simp
  by_cases h0 : a0 = b0 <;> by_cases h1 : a1 = b1 <;> by_cases h2 : a2 = b2 <;> simp [h0, h1, h2, bs_toList]
theorem not_prefix_at {A B : List Ent} (hl : A.length ≤ B.length) (i : Nat) (hi : i < A.length) (h : A[i] ≠ B[i]) : decide (A <+: B) = false := by
  refine decide_eq_false fun ⟨C, hC⟩ => ?_
  subst hC
  exact h (by rw [List.getElem_append_left hi])
theorem prefix_of_all {A B : List Ent} (hl : A.length ≤ B.length) (h : ∀ i (hi : i < A.length), A[i] = B[i]) : decide (A <+: B) = true := by
  refine decide_eq_true ⟨B.drop A.length, ?_⟩
  have : A = B.take A.length := by
    apply List.ext_getElem
    · rw [List.length_take]; omega
    · intro i h1 h2
      rw [List.getElem_take]
      exact h i h1
  conv => lhs; rw [this]
  rw [List.length_take, Nat.min_eq_left hl]
  exact List.take_append_drop _ _
set_option maxRecDepth 100000 in
set_option maxHeartbeats 4000000 in
theorem begins_any (A B : List Ent) (a b : Option Addr) (ca cb : Nat) (w : World) (hA : EntsAt w (.slice a A.length ca) A) (hB : EntsAt w (.slice b B.length cb) B) (hla : A.length ≤ 1000000) (hlb : B.length ≤ 1000000) :
    Calls Tryz.prog 9 #[.slice a A.length ca, .slice b B.length cb] w fun e w' => e = .returned (.bool (decide (A <+: B))) ∧ Below w.heap.size w w' := by
  by_cases hl : A.length ≤ B.length
  · have HA := Lib.hid hA
    have HB := Lib.hid hB
    have el : decide ((B.length : Int) < (A.length : Int)) = false := decide_eq_false (by omega)
    clear hA hB
    go_enter Tryz.func9, Tryz.ntmps9
    go_wp2
    go_loopg [5] A.length (fun gk v5 wr => ∃ i : Nat, v5 = .int .i64 (i : Int) ∧ i + gk = A.length ∧ (∀ j (h1 : j < A.length), j < i → A[j] = B[j]) ∧ Hid (Below w.heap.size w wr))
    case atStart => exact ⟨0, rfl, by omega, fun j _ h => by omega, Lib.hid (Below.refl _ _)⟩
    case round =>
      obtain ⟨i, rfl, hig, hsame, HBr⟩ := hrel
      have HS := Lib.hid hsame
      clear hsame
      by_cases hi : i < A.length
      · have hib : i < B.length := by omega
        obtain ⟨ba, oa, rfl, a0, a1, a2⟩ := ents_get (EntsAt.grew HA.out HBr.out) i hi
        obtain ⟨bb, ob, rfl, b0, b1, b2⟩ := ents_get (EntsAt.grew HB.out HBr.out) i hib
        have hI : (i : Int) < (A.length : Int) := by omega
        have hJ : (i : Int) < (B.length : Int) := by omega
        have hn := run_neq_ent A[i] B[i]
        by_cases he : A[i] = B[i]
        · rw [decide_eq_true he] at hn
          have HE := Lib.hid he
          clear he
          go_wp2_with (fail)
          have hex := Grew.all wr
          refine wp_region_grew (by kernel_rfl) (by kernel_rfl) ?_
          repeat (first | go_big_quiet_skip | (go_big_quiet_want; first | (refine quiet_load_mid 72 _ rfl ba (oa + i * 3) rfl [.int .i64 A[i].e, .int .i64 A[i].c, .string (bs A[i].b)] _ (fun W hW => range3 (Grew.cell hW a0) (Grew.cell hW a1) (Grew.cell hW a2)) Tryz.underlying72 rfl (by kernel_rfl) ?_; simp only [Act.put, List.setIfInBounds_toArray, List.set_cons_succ, List.set_cons_zero]; go_big_quiet_on) | (refine quiet_load_mid 72 _ rfl bb (ob + i * 3) rfl [.int .i64 B[i].e, .int .i64 B[i].c, .string (bs B[i].b)] _ (fun W hW => range3 (Grew.cell hW b0) (Grew.cell hW b1) (Grew.cell hW b2)) Tryz.underlying72 rfl (by kernel_rfl) ?_; simp only [Act.put, List.setIfInBounds_toArray, List.set_cons_succ, List.set_cons_zero]; go_big_quiet_on) | (go_big_quiet_op; first | go_big_quiet_on | (apply Exists.intro; refine ⟨fun W hW => ?_, ?_⟩; (first | exact rfl); go_big_quiet_on))))
          refine wpQuiet_nil ?_
          intro w3 hw3
          clear hex
          go_wp2
          go_roundg (gk - 1)
          case rel =>
            refine ⟨i + 1, by go_num, by omega, fun j h1 h2 => ?_, Lib.hid (HBr.out.trans (Below.mono (show Below wr.heap.size wr w3 from hw3) HBr.out.size))⟩
            by_cases hj : j < i
            · exact HS.out j h1 hj
            · obtain rfl : j = i := by omega
              exact HE.out
          case measure => omega
        · rw [decide_eq_false he] at hn
          have HE := Lib.hid (not_prefix_at hl i hi he)
          clear he
          go_wp2_with (fail)
          have hex := Grew.all wr
          refine wp_region_grew (by kernel_rfl) (by kernel_rfl) ?_
          repeat (first | go_big_quiet_skip | (go_big_quiet_want; first | (refine quiet_load_mid 72 _ rfl ba (oa + i * 3) rfl [.int .i64 A[i].e, .int .i64 A[i].c, .string (bs A[i].b)] _ (fun W hW => range3 (Grew.cell hW a0) (Grew.cell hW a1) (Grew.cell hW a2)) Tryz.underlying72 rfl (by kernel_rfl) ?_; simp only [Act.put, List.setIfInBounds_toArray, List.set_cons_succ, List.set_cons_zero]; go_big_quiet_on) | (refine quiet_load_mid 72 _ rfl bb (ob + i * 3) rfl [.int .i64 B[i].e, .int .i64 B[i].c, .string (bs B[i].b)] _ (fun W hW => range3 (Grew.cell hW b0) (Grew.cell hW b1) (Grew.cell hW b2)) Tryz.underlying72 rfl (by kernel_rfl) ?_; simp only [Act.put, List.setIfInBounds_toArray, List.set_cons_succ, List.set_cons_zero]; go_big_quiet_on) | (go_big_quiet_op; first | go_big_quiet_on | (apply Exists.intro; refine ⟨fun W hW => ?_, ?_⟩; (first | exact rfl); go_big_quiet_on))))
          refine wpQuiet_nil ?_
          intro w3 hw3
          clear hex
          go_wp2
          go_ret
          exact ⟨by rw [HE.out]; rfl, HBr.out.trans (Below.mono (show Below wr.heap.size wr w3 from hw3) HBr.out.size)⟩
      · obtain rfl : i = A.length := by omega
        have HP := Lib.hid (prefix_of_all hl (fun j h1 => HS.out j h1 h1))
        go_wp2
        go_ret
        exact ⟨by rw [HP.out]; rfl, HBr.out⟩
  · have el : decide ((B.length : Int) < (A.length : Int)) = true := decide_eq_true (by omega)
    have hp : decide (A <+: B) = false := decide_eq_false fun h => hl h.length_le
    rw [hp]
    clear hA hB
    go_enter Tryz.func9, Tryz.ntmps9
    go_wp2
    go_ret
    exact ⟨rfl, Below.refl _ _⟩
end Go.Proofs.YtkidhbflojlmoaaGreat
