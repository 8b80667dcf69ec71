/- The walk of SameEntries. Conditions: as each theorem says. -/
import Derived.Test.YtaahbfcnccmcoaaHistK
namespace Go.Proofs.Ytaahbfcnccmcoaa
open Go.RowKit

def sameE (A B : List Ent) : Bool := decide (A = B)
theorem ent_cases (x y : Ent) : x = y ∨ (x ≠ y ∧ (x.e == y.e) = false) ∨ (x ≠ y ∧ (x.e == y.e) = true ∧ (x.c == y.c) = false) ∨ (x ≠ y ∧ (x.e == y.e) = true ∧ (x.c == y.c) = true ∧ ((bs x.b).toList == (bs y.b).toList) = false) := by
  obtain ⟨e1, c1, b1⟩ := x
  obtain ⟨e2, c2, b2⟩ := y
  by_cases h1 : e1 = e2
  · by_cases h2 : c1 = c2
    · by_cases h3 : b1 = b2
      · subst h1 h2 h3; exact .inl rfl
      · exact .inr (.inr (.inr ⟨fun h => h3 (congrArg Ent.b h), by simpa using h1, by simpa using h2, by rw [bs_toList, bs_toList]; simpa using h3⟩))
    · exact .inr (.inr (.inl ⟨fun h => h2 (congrArg Ent.c h), by simpa using h1, by simpa using h2⟩))
  · exact .inr (.inl ⟨fun h => h1 (congrArg Ent.e h), by simpa using h1⟩)
set_option maxRecDepth 100000 in
set_option maxHeartbeats 1600000 in
theorem sameents_any (A B : List Ent) (a b : Option Addr) (ca cb : Nat) (w : World) (hA : EntsAt w (.slice a A.length ca) A) (hB : EntsAt w (.slice b B.length cb) B) (hn : A.length ≤ 9223372036854775807) (hn2 : B.length ≤ 9223372036854775807) :
    Calls Try.prog 20 #[.slice a A.length ca, .slice b B.length cb] w fun e w' => e = .returned (.bool (sameE A B)) ∧ Below w.heap.size w w' := by
  by_cases hl : A.length = B.length
  · have hle : A.length ≤ B.length := by omega
    have hge : B.length ≤ A.length := by omega
    have HL := Lib.hid hl
    have hd : ((A.length : Int) == (B.length : Int)) = true := by simp [hl]
    have hd' : ((A.length : Int) != (B.length : Int)) = false := by simp [hl]
    clear hl
    go_enter Try.func20, Try.ntmps20
    go_wp2
    go_loopw [5] (fun vi wr => ∃ (i : Nat), vi = .int .i64 (i : Int) ∧ i ≤ A.length ∧ A.take i = B.take i ∧ Below w.heap.size w wr) (fun vi _ => A.length - (intOf vi).toNat)
    case atStart => exact ⟨0, rfl, by omega, by simp, Below.refl _ _⟩
    case round =>
      obtain ⟨i, rfl, hi, htk, hbr⟩ := hrel
      have Htk := Lib.hid htk
      clear htk
      by_cases h : i < A.length
      · obtain ⟨ba, oa, rfl, x0, x1, x2⟩ := ents_get (hA.grew hbr) i h
        obtain ⟨bb, ob, rfl, y0, y1, y2⟩ := ents_get (hB.grew hbr) i (by omega)
        have Hne : Hid (A[i] ≠ B[i] → sameE A B = false) := by
          show _
          intro hne
          unfold sameE
          exact decide_eq_false (fun h => hne (by subst h; rfl))
        have Hst : Hid (A[i] = B[i] → A.take (i + 1) = B.take (i + 1)) := by
          show _
          intro he
          rw [List.take_succ_eq_append_getElem h, List.take_succ_eq_append_getElem (by omega), Htk.out, he]
        have hlx : (bs A[i].b).size = A[i].b.length := bs_size _
        clear hA hB hlx
        generalize A[i] = x at *
        generalize B[i]'(by omega) = y at *
        rcases ent_cases x y with rfl | ⟨hne, q0⟩ | ⟨hne, q0, q1⟩ | ⟨hne, q0, q1, q2⟩
        · as_aux_lemma =>
          go_wp2_with (fail)
          have hex := Grew.all wr
          refine wp_region_grew (by kernel_rfl) (by kernel_rfl) ?_
          repeat (first | go_big_quiet_skip | (go_big_quiet_want; first | (refine quiet_load_mid 91 _ rfl _ _ rfl [.int .i64 x.e, .int .i64 x.c, .string (bs x.b)] _ (fun W hW => range3 (Grew.cell hW x0) (Grew.cell hW x1) (Grew.cell hW x2)) Try.underlying91 rfl (by kernel_rfl) ?_; simp only [Act.put, List.setIfInBounds_toArray, List.set_cons_succ, List.set_cons_zero]; go_big_quiet_on) | (refine quiet_load_mid 91 _ rfl _ _ rfl [.int .i64 x.e, .int .i64 x.c, .string (bs x.b)] _ (fun W hW => range3 (Grew.cell hW y0) (Grew.cell hW y1) (Grew.cell hW y2)) Try.underlying91 rfl (by kernel_rfl) ?_; simp only [Act.put, List.setIfInBounds_toArray, List.set_cons_succ, List.set_cons_zero]; go_big_quiet_on) | (go_big_quiet_op; first | go_big_quiet_on | (apply Exists.intro; refine ⟨fun W hW => ?_, ?_⟩; (first | exact rfl); go_big_quiet_on))))
          refine wpQuiet_nil ?_
          intro wq hw4
          have hbq := hbr.trans (Below.mono (show Below wr.heap.size wr wq from hw4) hbr.size)
          clear hex hw4
          go_wp2
          go_roundw
          case rel => exact ⟨i + 1, by go_num, by omega, Hst.out (by first | rfl | trivial), hbq⟩
          case measure => simp [intOf]; omega
        all_goals
          as_aux_lemma =>
          have HF := Lib.hid (Hne.out hne)
          clear hne
          go_wp2_with (fail)
          have hex := Grew.all wr
          refine wp_region_grew (by kernel_rfl) (by kernel_rfl) ?_
          repeat (first | go_big_quiet_skip | (go_big_quiet_want; first | (refine quiet_load_mid 91 _ rfl _ _ rfl [.int .i64 x.e, .int .i64 x.c, .string (bs x.b)] _ (fun W hW => range3 (Grew.cell hW x0) (Grew.cell hW x1) (Grew.cell hW x2)) Try.underlying91 rfl (by kernel_rfl) ?_; simp only [Act.put, List.setIfInBounds_toArray, List.set_cons_succ, List.set_cons_zero]; go_big_quiet_on) | (refine quiet_load_mid 91 _ rfl _ _ rfl [.int .i64 y.e, .int .i64 y.c, .string (bs y.b)] _ (fun W hW => range3 (Grew.cell hW y0) (Grew.cell hW y1) (Grew.cell hW y2)) Try.underlying91 rfl (by kernel_rfl) ?_; simp only [Act.put, List.setIfInBounds_toArray, List.set_cons_succ, List.set_cons_zero]; go_big_quiet_on) | (go_big_quiet_op; first | go_big_quiet_on | (apply Exists.intro; refine ⟨fun W hW => ?_, ?_⟩; (first | exact rfl); go_big_quiet_on))))
          refine wpQuiet_nil ?_
          intro wq hw4
          have hbq := hbr.trans (Below.mono (show Below wr.heap.size wr wq from hw4) hbr.size)
          clear hex hw4
          go_wp2
          go_ret
          exact ⟨by rw [HF.out]; rfl, hbq⟩
      · as_aux_lemma =>
        have HF : Hid (sameE A B = true) := by
          show _ = _
          unfold sameE
          have h1 := Htk.out
          rw [List.take_of_length_le (by omega), List.take_of_length_le (by omega)] at h1
          exact decide_eq_true h1
        go_wp2
        go_ret
        exact ⟨by rw [HF.out]; rfl, hbr⟩
  · as_aux_lemma =>
    have HF : Hid (sameE A B = false) := by
      show _ = _
      unfold sameE
      exact decide_eq_false (fun h => hl (by rw [h]))
    have hd : ((A.length : Int) == (B.length : Int)) = false := by simp; omega
    have hd' : ((A.length : Int) != (B.length : Int)) = true := by simp; omega
    go_enter Try.func20, Try.ntmps20
    go_wp2
    go_ret
    exact ⟨by rw [HF.out]; rfl, Below.refl _ _⟩
end Go.Proofs.Ytaahbfcnccmcoaa
