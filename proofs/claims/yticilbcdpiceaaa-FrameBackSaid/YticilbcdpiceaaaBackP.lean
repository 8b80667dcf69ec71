/- The plain law of a beginning of a row of records. Conditions: as each theorem says. -/
import Derived.Test.YticilbcdpiceaaaApartW
namespace Go.Proofs.Yticilbcdpiceaaa
open Go.RowKit Go.WideShapes Go.ChangeShapes

/-- A true beginning of a record ends too early. -/
theorem cut_err (b r x : List UInt8) (h1 : 1 ≤ b.length) (h2 : b.length ≤ 65536) (h : frameL b = r ++ x) (hx : x ≠ []) : nErr r = 10 := by
  have hl := congrArg List.length h
  rw [frame_length, List.length_append] at hl
  have hxl : 0 < x.length := List.length_pos_iff.2 hx
  unfold nErr
  by_cases h8 : r.length < 8
  · rw [if_pos h8]
  · have hhd : hd r = b.length := by
      have e := hd_frame b [] (by omega)
      rw [List.append_nil, h] at e
      rw [← e]
      unfold hd
      refine acc_congr _ _ 0 4 0 (fun j hj => ?_)
      simp only [byteAt, List.getD, Nat.zero_add]
      rw [List.getElem?_append_left (by omega)]
    rw [if_neg h8, hhd, if_neg (by omega), if_pos (by omega)]
theorem all_cut (l : List (List UInt8)) (b r x : List UInt8) (hl : ∀ y ∈ l, 1 ≤ y.length ∧ y.length ≤ 65536) (h1 : 1 ≤ b.length) (h2 : b.length ≤ 65536) (h : frameL b = r ++ x) (hx : x ≠ []) (hr : r ≠ []) :
    allL (rowL l ++ r) = (l, (rowL l).length, 10) := by
  have he := cut_err b r x h1 h2 h hx
  have := recs_row l hl (rowL l ++ r).length r (Nat.le_refl _) (.inl (by omega))
  rw [if_neg hr, he] at this
  exact this
theorem bytesOf_back (L : List ByteArray) : (bytesOf L).map (fun b => (⟨b.toArray⟩ : ByteArray)) = L := by
  unfold bytesOf
  rw [List.map_map]
  have : ((fun b : List UInt8 => (⟨b.toArray⟩ : ByteArray)) ∘ fun s : ByteArray => s.data.toList) = id := by funext s; simp
  rw [this, List.map_id]
def sz (L : List ByteArray) (k : Nat) : Nat := (rowB (L.take k)).size
theorem sz_len (L : List ByteArray) (k : Nat) : sz L k = (rowL (bytesOf (L.take k))).length := rfl
theorem sz_zero (L : List ByteArray) : sz L 0 = 0 := by simp [sz_len, bytesOf, rowL]
theorem sz_succ (L : List ByteArray) (k : Nat) (h : k < L.length) : sz L (k + 1) = sz L k + (8 + (L[k]).size) := by
  have e := congrArg ByteArray.size (rowB_snoc L k h)
  rw [ByteArray.size_append] at e
  have f : (ByteArray.mk (frameL (L[k]).data.toList).toArray).size = 8 + (L[k]).size := frame_length (L[k]).data.toList
  unfold sz
  omega
/-- Every text has from 1 to 2000 bytes. -/
def fits (L : List ByteArray) : Prop := ∀ j (hj : j < L.length), 0 < (L[j]).size ∧ (L[j]).size ≤ 2000
theorem fits_bounds (L : List ByteArray) (h : fits L) (k : Nat) : ∀ b ∈ bytesOf (L.take k), 1 ≤ b.length ∧ b.length ≤ 65536 := by
  intro b hb
  obtain ⟨s, hs, rfl⟩ := List.mem_map.1 hb
  obtain ⟨j, hj, rfl⟩ := List.getElem_of_mem (List.mem_of_mem_take hs)
  have h3 := h j hj
  exact ⟨h3.1, Nat.le_trans h3.2 (by decide)⟩
theorem all_whole (L : List ByteArray) (h : fits L) : allL (rowB L).data.toList = (bytesOf L, sz L L.length, 0) := by
  have h1 := all_row (bytesOf L) (by have := fits_bounds L h L.length; rwa [List.take_length] at this)
  rw [sz_len, List.take_length]
  exact h1
theorem row_split (L : List ByteArray) (k : Nat) : rowL (bytesOf L) = rowL (bytesOf (L.take k)) ++ rowL (bytesOf (L.drop k)) := by
  unfold rowL
  rw [← List.flatMap_append]
  congr 1
  unfold bytesOf
  rw [← List.map_append, List.take_append_drop]
/-- What is found in a beginning of a row. -/
theorem all_begin (L : List ByteArray) (h : fits L) (k A : Nat) (hk : k < L.length) (h1 : sz L k ≤ A) (h2 : A < sz L (k + 1)) :
    allL (rowL (bytesOf L) |>.take A) = (bytesOf (L.take k), sz L k, if A = sz L k then 0 else 10) := by
  have hb := fits_bounds L h k
  rw [sz_len] at h1
  rw [row_split L k, List.take_append, List.take_of_length_le h1]
  by_cases e : A = sz L k
  · rw [if_pos e, sz_len] at *
    rw [e, Nat.sub_self, List.take_zero, List.append_nil]
    exact all_row _ hb
  · rw [if_neg e]
    rw [sz_len] at e
    have hd : L.drop k = L[k] :: L.drop (k + 1) := List.drop_eq_getElem_cons hk
    rw [sz_succ L k hk, sz_len] at h2
    have hlx : (frameL (L[k]).data.toList).length = 8 + (L[k]).size := frame_length _
    have er : (rowL (bytesOf (L.drop k))).take (A - (rowL (bytesOf (L.take k))).length) = (frameL (L[k]).data.toList).take (A - (rowL (bytesOf (L.take k))).length) := by
      rw [hd]
      simp only [bytesOf, List.map_cons, rowL, List.flatMap_cons]
      rw [List.take_append_of_le_length]
      rw [hlx]
      unfold bytesOf rowL at h2
      omega
    rw [er]
    have hx := h k hk
    refine all_cut _ (L[k]).data.toList _ ((frameL (L[k]).data.toList).drop (A - (rowL (bytesOf (L.take k))).length)) hb hx.1 (Nat.le_trans hx.2 (by decide)) (List.take_append_drop _ _).symm ?_ ?_
    · intro h0
      have := congrArg List.length h0
      rw [List.length_drop, hlx, List.length_nil] at this
      omega
    · intro h0
      have := congrArg List.length h0
      rw [List.length_take, hlx, List.length_nil] at this
      omega
end Go.Proofs.Yticilbcdpiceaaa
