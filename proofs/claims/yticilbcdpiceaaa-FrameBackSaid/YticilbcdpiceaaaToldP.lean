/- The plain law of a turned byte in a record, and the lists of records. Conditions: as each theorem says. -/
import Derived.Test.YticilbcdpiceaaaFrameL
import Derived.Test.YticilbcdpiceaaaTellW
namespace Go.Proofs.Yticilbcdpiceaaa
open Go.RowKit

theorem byteAt_le4 (n : Nat) (r : List UInt8) : byteAt (le4 n ++ r) 0 = n % 256 ∧ byteAt (le4 n ++ r) 1 = n / 256 % 256 ∧ byteAt (le4 n ++ r) 2 = n / 65536 % 256 ∧ byteAt (le4 n ++ r) 3 = n / 16777216 % 256 := by
  simp [byteAt, le4]
theorem acc_congr (B C : Nat → Nat) (o k p : Nat) (h : ∀ j, j < k → B (o + j) = C (p + j)) : acc B o k = acc C p k := by
  induction k with
  | zero => rfl
  | succ k ih => simp only [acc]; rw [ih (fun j hj => h j (by omega)), h k (by omega)]
theorem acc_le4 (n : Nat) (h : n < 4294967296) (r : List UInt8) : acc (byteAt (le4 n ++ r)) 0 4 = n := by
  obtain ⟨h0, h1, h2, h3⟩ := byteAt_le4 n r
  simp only [acc, Nat.zero_add, h0, h1, h2, h3]
  omega
theorem byteAt_append (a b : List UInt8) (j : Nat) : byteAt (a ++ b) (a.length + j) = byteAt b j := by
  simp [byteAt, List.getD, List.getElem?_append_right]
theorem hd_frame (b r : List UInt8) (h : b.length < 4294967296) : hd (frameL b ++ r) = b.length := by
  unfold hd frameL
  rw [List.append_assoc, List.append_assoc]
  exact acc_le4 _ h _
theorem sm_frame (b r : List UInt8) : sm (frameL b ++ r) = crc b := by
  unfold sm frameL
  rw [List.append_assoc, List.append_assoc]
  rw [acc_congr _ (byteAt (le4 (crc b) ++ (b ++ r))) 4 4 0 (fun j _ => by rw [Nat.zero_add]; exact byteAt_append (le4 b.length) _ j)]
  exact acc_le4 _ (crc_lt b) _
theorem frame_length (b : List UInt8) : (frameL b).length = 8 + b.length := by simp [frameL, le4]; omega
theorem frame_drop (b r : List UInt8) : (frameL b ++ r).drop 8 = b ++ r := by
  unfold frameL
  rw [List.append_assoc]
  exact List.drop_left' (by simp [le4])
/-- What was framed is found. -/
theorem next_frame (b r : List UInt8) (h1 : 1 ≤ b.length) (h2 : b.length ≤ 65536) : nErr (frameL b ++ r) = 0 ∧ nBody (frameL b ++ r) = b ∧ nUsed (frameL b ++ r) = 8 + b.length := by
  have e : nErr (frameL b ++ r) = 0 := by
    unfold nErr
    have hl : (frameL b ++ r).length = 8 + b.length + r.length := by simp [frame_length]
    rw [hl, hd_frame b r (by omega), frame_drop, sm_frame, if_neg (by omega), if_neg (by omega), if_neg (by omega), List.take_left' rfl, if_pos rfl]
  refine ⟨e, ?_, ?_⟩
  · unfold nBody; rw [if_pos e, hd_frame b r (by omega), frame_drop, List.take_left' rfl]
  · unfold nUsed; rw [if_pos e, hd_frame b r (by omega)]

/-- A record of which one byte of its sum or its body is another one is none. -/
theorem told (b : List UInt8) (h1 : 1 ≤ b.length) (h2 : b.length ≤ 65536) (i : Nat) (hi : 4 ≤ i) (hl : i < (frameL b).length) (t : Nat) (ht : t < 256) (h0 : t ≠ 0) :
    nErr ((frameL b).set i (turned ((frameL b)[i]) t)) = 13 := by
  have hfl := frame_length b
  have hlen : ((frameL b).set i (turned ((frameL b)[i]) t)).length = 8 + b.length := by rw [List.length_set, hfl]
  have hget : ∀ j, j ≠ i → byteAt ((frameL b).set i (turned ((frameL b)[i]) t)) j = byteAt (frameL b) j := fun j hj => by
    simp [byteAt, List.getD, List.getElem?_set_ne (Ne.symm hj)]
  have hhd : hd ((frameL b).set i (turned ((frameL b)[i]) t)) = b.length := by
    have := hd_frame b [] (by omega)
    rw [List.append_nil] at this
    rw [← this]
    exact acc_congr _ _ 0 4 0 (fun j hj => hget _ (by omega))
  have hf : frameL b = le4 b.length ++ (le4 (crc b) ++ b) := by unfold frameL; rw [List.append_assoc]
  unfold nErr
  rw [hlen, hhd, if_neg (by omega), if_neg (by omega), if_neg (by omega)]
  rw [if_neg]
  intro hc
  have hsm : le4 (sm ((frameL b).set i (turned ((frameL b)[i]) t))) = (((frameL b).set i (turned ((frameL b)[i]) t)).drop 4).take 4 := ofNat_acc _ (byteAt_lt _) _ (fun _ => rfl) 4 (by omega)
  have hsm0 : le4 (crc b) = ((frameL b).drop 4).take 4 := by
    rw [← sm_frame b [], List.append_nil]
    exact ofNat_acc _ (byteAt_lt _) _ (fun _ => rfl) 4 (by omega)
  have hd8 : (frameL b).drop 8 = b := by have := frame_drop b []; rwa [List.append_nil, List.append_nil] at this
  by_cases h8 : i < 8
  · have hb : (((frameL b).set i (turned ((frameL b)[i]) t)).drop 8).take b.length = b := by
      rw [List.drop_set_of_lt h8, hd8, List.take_of_length_le (Nat.le_refl _)]
    rw [hb] at hc
    rw [← hc, hsm0] at hsm
    have h4 := congrArg (fun l => l[i - 4]?) hsm
    simp only [List.getElem?_take, List.getElem?_drop, show i - 4 < 4 by omega, if_true, show 4 + (i - 4) = i by omega] at h4
    rw [List.getElem?_set_self hl, List.getElem?_eq_getElem hl, Option.some.injEq] at h4
    exact h0 ((turned_same _ t ht).1 h4.symm)
  · have hs : sm ((frameL b).set i (turned ((frameL b)[i]) t)) = crc b := by
      rw [← sm_frame b [], List.append_nil]
      exact acc_congr _ _ 4 4 4 (fun j hj => hget _ (by omega))
    have hib : i - 8 < b.length := by omega
    have hgi : (frameL b)[i] = b[i - 8] := by
      have h4 := congrArg (fun l => l[i - 8]?) hd8
      simp only [List.getElem?_drop, show 8 + (i - 8) = i by omega] at h4
      rw [List.getElem?_eq_getElem hl, List.getElem?_eq_getElem hib, Option.some.injEq] at h4
      exact h4
    have hb : (((frameL b).set i (turned ((frameL b)[i]) t)).drop 8).take b.length = b.set (i - 8) (turned (b[i - 8]) t) := by
      rw [List.drop_set, if_neg (by omega), hd8, hgi, List.take_of_length_le (by simp)]
    rw [hb, hs] at hc
    exact h0 ((crc_set b (i - 8) hib t ht).1 hc)

/-- A row of records. -/
def rowL (l : List (List UInt8)) : List UInt8 := l.flatMap frameL
/-- What was framed, one behind the other, is found. -/
theorem recs_row (l : List (List UInt8)) (h : ∀ b ∈ l, 1 ≤ b.length ∧ b.length ≤ 65536) : ∀ (f : Nat) (r : List UInt8), (rowL l ++ r).length ≤ f → (nErr r ≠ 0 ∨ r = []) → 
    recs f (rowL l ++ r) = (l, (rowL l).length, if r = [] then 0 else nErr r) := by
  induction l with
  | nil =>
    intro f r hf hr
    simp only [rowL, List.flatMap_nil, List.nil_append, List.length_nil]
    cases f with
    | zero =>
      have : r = [] := List.eq_nil_of_length_eq_zero (by simpa [rowL] using hf)
      simp [recs, this]
    | succ f =>
      by_cases e : r = []
      · simp [recs, e]
      · have : nErr r ≠ 0 := by exact hr.resolve_right e
        simp only [recs, if_neg e, if_neg this]
  | cons b l ih =>
    intro f r hf hr
    obtain ⟨hb1, hb2⟩ := h b (by simp)
    have e1 : rowL (b :: l) ++ r = frameL b ++ (rowL l ++ r) := by simp [rowL]
    obtain ⟨n1, n2, n3⟩ := next_frame b (rowL l ++ r) hb1 hb2
    rw [e1] at hf ⊢
    have hfl := frame_length b
    cases f with
    | zero => simp only [List.length_append] at hf; omega
    | succ f =>
      have hne : frameL b ++ (rowL l ++ r) ≠ [] := by intro h; have := congrArg List.length h; simp only [List.length_append, List.length_nil] at this; omega
      have hdr : (frameL b ++ (rowL l ++ r)).drop (8 + b.length) = rowL l ++ r := List.drop_left' hfl
      have hi := ih (fun x hx => h x (by simp [hx])) f r (by simp only [List.length_append] at hf ⊢; omega) hr
      simp only [recs, if_neg hne, n1, n2, n3, hdr, hi, if_true]
      simp [rowL, hfl]
theorem all_row (l : List (List UInt8)) (h : ∀ b ∈ l, 1 ≤ b.length ∧ b.length ≤ 65536) : allL (rowL l) = (l, (rowL l).length, 0) := by
  have := recs_row l h (rowL l).length [] (by simp) (.inr rfl)
  simpa [allL] using this
theorem row_inj (a b : List (List UInt8)) (ha : ∀ x ∈ a, 1 ≤ x.length ∧ x.length ≤ 65536) (hb : ∀ x ∈ b, 1 ≤ x.length ∧ x.length ≤ 65536) (h : rowL a = rowL b) : a = b := by
  have h1 := all_row a ha
  rw [h, all_row b hb] at h1
  exact (Prod.mk.inj h1).1.symm
end Go.Proofs.Yticilbcdpiceaaa
