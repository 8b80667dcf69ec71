/- The walks of packed texts and lists as they are written, and of the law's own helpers. Conditions: as each theorem says. -/
import Derived.Test.YtlcblkmmkphpmaaPackW
import Derived.Test.YtlcblkmmkphpmaaPackQ
namespace Go.Proofs.Ytlcblkmmkphpmaa
open Go.RowKit

theorem numSize (n : Int) (h1 : -9223372036854775808 ≤ n) (h2 : n ≤ 9223372036854775807) : (bs (numL n)).size ≤ 10 := by
  rw [bs_size]; exact vb_len10 _ (zig_lt n h1 h2)
set_option maxRecDepth 100000 in
theorem text_any (s : List UInt8) (hs : s.length ≤ 4611686018427387903) (w : World) :
    Calls Try.prog 83 #[.string (bs s)] w fun e w' => e = .returned (.string (bs (textL s))) ∧ Below w.heap.size w w' := by
  have h1 := bs_size s
  have h2 := numSize (s.length : Int) (by omega) (by omega)
  go_enter Try.func83, Try.ntmps83
  go_wp2_with (go_at_call 70; refine (num_any _ (by omega) (by omega) _).mono ?_; rintro e w1 ⟨rfl, hb⟩)
  have h3 : ¬ (9223372036854775807 < (bs (numL ↑s.length)).size + s.length) := by omega
  have h4 : bs (numL ↑s.length) ++ bs s = bs (textL s) := bs_append _ _
  generalize bs (numL ↑s.length) = q at *
  go_wp2
  go_ret
  exact ⟨by rw [h4]; rfl, hb⟩
set_option maxRecDepth 100000 in
theorem reftext_any (s : List UInt8) (hs : s.length ≤ 4611686018427387903) (w : World) :
    Calls Try.prog 73 #[.string (bs s)] w fun e w' => e = .returned (.string (bs (textL s))) ∧ Below w.heap.size w w' := by
  have h1 := bs_size s
  have h2 := numSize (s.length : Int) (by omega) (by omega)
  go_enter Try.func73, Try.ntmps73
  go_wp2_with (go_at_call 72; refine (refnum_any _ (by omega) (by omega) _).mono ?_; rintro e w1 ⟨rfl, hb⟩)
  have h3 : ¬ (9223372036854775807 < (bs (numL ↑s.length)).size + s.length) := by omega
  have h4 : bs (numL ↑s.length) ++ bs s = bs (textL s) := bs_append _ _
  generalize bs (numL ↑s.length) = q at *
  go_wp2
  go_ret
  exact ⟨by rw [h4]; rfl, hb⟩
theorem textL_len (s : List UInt8) (hs : s.length ≤ 9223372036854775807) : (textL s).length ≤ 10 + s.length := by
  unfold textL numL
  have := vb_len10 (zig s.length) (zig_lt _ (by omega) (by omega))
  simp; omega
theorem flat_take (L : List (List UInt8)) (i : Nat) (hi : i < L.length) : (L.take (i + 1)).flatMap textL = (L.take i).flatMap textL ++ textL L[i] := by
  rw [List.take_succ_eq_append_getElem hi, List.flatMap_append]; congr 1; rw [List.flatMap_cons, List.flatMap_nil, List.append_nil]
theorem flat_take_len (L : List (List UInt8)) (i : Nat) : ((L.take i).flatMap textL).length ≤ (L.flatMap textL).length := by
  have h : L.flatMap textL = (L.take i).flatMap textL ++ (L.drop i).flatMap textL := by rw [← List.flatMap_append, List.take_append_drop]
  rw [h]; simp

/-- What the writer of lists has so far. -/
def ListInv (L : List (List UInt8)) (i : Nat) : List UInt8 := numL L.length ++ (L.take i).flatMap textL
theorem ListInv.zero (L : List (List UInt8)) : ListInv L 0 = numL L.length := by unfold ListInv; simp
theorem ListInv.step (L : List (List UInt8)) (i : Nat) (hi : i < L.length) : ListInv L (i + 1) = ListInv L i ++ textL L[i] := by unfold ListInv; rw [flat_take L i hi, List.append_assoc]
theorem ListInv.all (L : List (List UInt8)) : ListInv L L.length = listL L := by unfold ListInv listL; rw [List.take_length]
theorem ListInv.le (L : List (List UInt8)) (i : Nat) : (ListInv L i).length ≤ (listL L).length := by
  unfold ListInv listL; have := flat_take_len L i; simp only [List.length_append]; omega

theorem str_eq (a b : List UInt8) : (bs a = bs b) = (a = b) := propext ⟨bs_inj, fun h => by rw [h]⟩
end Go.Proofs.Ytlcblkmmkphpmaa
