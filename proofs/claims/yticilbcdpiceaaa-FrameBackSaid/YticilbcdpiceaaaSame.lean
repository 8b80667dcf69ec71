/- The walk of the law's same: are two lists of texts the same? Conditions: as the theorem says. -/
import Derived.Test.YticilbcdpiceaaaRefAll
namespace Go.Proofs.Yticilbcdpiceaaa
open Go.RowKit

/-- The slice value v reads as the texts L. -/
def StrsAt (w : World) (v : Value) (L : List ByteArray) : Prop :=
  ∃ a cap, v = .slice a L.length cap ∧ ∀ i, i < L.length → ∃ b off, a = some ⟨b, off, none⟩ ∧ w.cell? ⟨b, off + i, none⟩ = some (.string (L.getD i ⟨#[]⟩))
theorem StrsAt.grew {w w' : World} {v : Value} {L : List ByteArray} (h : StrsAt w v L) (hb : Below w.heap.size w w') : StrsAt w' v L := by
  obtain ⟨a, cap, hv, hc⟩ := h
  refine ⟨a, cap, hv, fun i hi => ?_⟩
  obtain ⟨b, off, h1, h2⟩ := hc i hi
  exact ⟨b, off, h1, Grew.cell hb h2⟩
theorem strs_own {w : World} {base : Nat} {v : Value} {D : List (List UInt8)} (h : w.ownsRow base 9 1 v D.length (D.map str)) : StrsAt w v (D.map fun b => ⟨b.toArray⟩) := by
  rcases h.2 with ⟨rfl, h0⟩ | ⟨g, cap, cur, rfl, _⟩
  · refine ⟨none, 0, by simp [h0], fun i hi => ?_⟩
    simp [h0] at hi
  · refine ⟨_, cap, by simp, fun i hi => ⟨g, 0, rfl, ?_⟩⟩
    have hi' : i < D.length := by simpa using hi
    rw [Nat.zero_add, h.cellAt i (by omega)]
    simp [str, List.getD, hi']

/-- Are they? -/
def sameB (a b : List ByteArray) : Bool := decide (a = b)
theorem strs_len {w : World} {v : Value} {L : List ByteArray} (h : StrsAt w v L) : ∃ a cap, v = .slice a L.length cap := by
  obtain ⟨a, cap, hv, _⟩ := h
  exact ⟨a, cap, hv⟩

set_option maxRecDepth 100000 in
set_option maxHeartbeats 800000 in
theorem same_any (v1 v2 : Value) (A B : List ByteArray) (w : World) (h1 : StrsAt w v1 A) (h2 : StrsAt w v2 B) (hA : A.length ≤ maxLen) (hB : B.length ≤ maxLen) :
    Calls Try.prog 25 #[v1, v2] w fun e w' => e = .returned (.bool (sameB A B)) ∧ Below w.heap.size w w' := by
  unfold maxLen at hA hB
  obtain ⟨a1, c1, rfl, hc1⟩ := h1
  obtain ⟨a2, c2, rfl, hc2⟩ := h2
  by_cases hl : A.length = B.length
  · have hl1 : (((A.length : Nat) : Int) != ((B.length : Nat) : Int)) = false := by rw [hl]; simp
    have H1 := Lib.hid hc1
    have H2 := Lib.hid hc2
    have HL := Lib.hid hl
    clear hc1 hc2 hl
    go_enter Try.func25, Try.ntmps25
    go_wp2
    go_loopw [5] (fun i wr => ∃ k : Nat, i = .int .i64 k ∧ k ≤ A.length ∧ A.take k = B.take k ∧ Grew w wr) (fun i _ => A.length - (intOf i).toNat)
    case atStart => exact ⟨0, rfl, by omega, rfl, Grew.refl _⟩
    case round =>
      obtain ⟨k, rfl, hk, ht, hb⟩ := hrel
      have Ht := Lib.hid ht
      clear ht
      by_cases hlt : k < A.length
      · have hltB : k < B.length := by have := HL.out; omega
        obtain ⟨b1, o1, rfl, hx1⟩ := H1.out k hlt
        obtain ⟨b2, o2, rfl, hx2⟩ := H2.out k hltB
        have hy1 := hb.cell hx1
        have hy2 := hb.cell hx2
        clear hx1 hx2
        have hga : A.getD k ⟨#[]⟩ = A[k] := by simp [List.getD, hlt]
        have hgb : B.getD k ⟨#[]⟩ = B[k] := by simp [List.getD, hltB]
        rw [hga] at hy1
        rw [hgb] at hy2
        by_cases hxy : A[k] = B[k]
        · have hcmp : ((A[k]).toList == (B[k]).toList) = true := by rw [hxy]; simp
          have hst := Lib.hid (show A.take (k + 1) = B.take (k + 1) by rw [List.take_succ_eq_append_getElem hlt, List.take_succ_eq_append_getElem hltB, Ht.out, hxy])
          clear hga hgb hxy
          generalize A[k] = x at *
          generalize B[k] = y at *
          go_wp2_with fail
          have hex := Grew.all wr
          refine wp_region_grew (by kernel_rfl) (by kernel_rfl) ?_
          repeat (first | go_big_quiet_skip | (go_big_quiet_want; first | (refine quiet_load_cell 9 (.tmp 19) rfl _ rfl _ _ Try.underlying9 rfl (fun W hW => Grew.cell hW hy1) ?_; simp only [Act.put, List.setIfInBounds_toArray, List.set_cons_succ, List.set_cons_zero]; go_big_quiet_on) | (refine quiet_load_cell 9 (.tmp 23) rfl _ rfl _ _ Try.underlying9 rfl (fun W hW => Grew.cell hW hy2) ?_; simp only [Act.put, List.setIfInBounds_toArray, List.set_cons_succ, List.set_cons_zero]; go_big_quiet_on) | (go_big_quiet_op; first | go_big_quiet_on | (apply Exists.intro; refine ⟨fun W hW => ?_, ?_⟩; (first | fail); go_big_quiet_on))))
          refine wpQuiet_nil ?_
          intro w2 hw2
          clear hex
          go_wp2
          go_roundw
          case rel => exact ⟨k + 1, by go_num, by omega, hst.out, hb.trans hw2⟩
          case measure => simp [intOf]; omega
        · have hcmp : ((A[k]).toList == (B[k]).toList) = false := by
            rw [beq_eq_false_iff_ne, ByteArray.toList_eq, ByteArray.toList_eq]
            intro h
            exact hxy (ByteArray.ext (Array.ext' h))
          have hcmp2 : ((A[k]).toList != (B[k]).toList) = true := by rw [bne, hcmp]; rfl
          have hst := Lib.hid (show sameB A B = false by
            unfold sameB
            refine decide_eq_false fun h => hxy ?_
            subst h
            rfl)
          clear hga hgb hxy
          generalize A[k] = x at *
          generalize B[k] = y at *
          go_wp2_with fail
          have hex := Grew.all wr
          refine wp_region_grew (by kernel_rfl) (by kernel_rfl) ?_
          repeat (first | go_big_quiet_skip | (go_big_quiet_want; first | (refine quiet_load_cell 9 (.tmp 19) rfl _ rfl _ _ Try.underlying9 rfl (fun W hW => Grew.cell hW hy1) ?_; simp only [Act.put, List.setIfInBounds_toArray, List.set_cons_succ, List.set_cons_zero]; go_big_quiet_on) | (refine quiet_load_cell 9 (.tmp 23) rfl _ rfl _ _ Try.underlying9 rfl (fun W hW => Grew.cell hW hy2) ?_; simp only [Act.put, List.setIfInBounds_toArray, List.set_cons_succ, List.set_cons_zero]; go_big_quiet_on) | (go_big_quiet_op; first | go_big_quiet_on | (apply Exists.intro; refine ⟨fun W hW => ?_, ?_⟩; (first | fail); go_big_quiet_on))))
          refine wpQuiet_nil ?_
          intro w2 hw2
          clear hex
          go_wp2
          go_ret
          exact ⟨by rw [hst.out]; rfl, hb.trans hw2⟩
      · have hst := Lib.hid (show sameB A B = true by
          have e : k = A.length := by omega
          subst e
          have h := Ht.out
          rw [List.take_of_length_le (by omega), List.take_of_length_le (by have := HL.out; omega)] at h
          exact decide_eq_true h)
        go_wp2
        go_ret
        exact ⟨by rw [hst.out]; rfl, hb⟩
  · have hl1 : (((A.length : Nat) : Int) != ((B.length : Nat) : Int)) = true := by rw [bne_iff_ne]; omega
    have hst := Lib.hid (show sameB A B = false from decide_eq_false fun h => hl (by rw [h]))
    go_enter Try.func25, Try.ntmps25
    go_wp2
    go_ret
    exact ⟨by rw [hst.out]; rfl, Below.refl _ _⟩
end Go.Proofs.Yticilbcdpiceaaa
