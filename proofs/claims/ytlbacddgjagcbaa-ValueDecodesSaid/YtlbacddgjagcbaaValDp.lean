/- Plain: which message bytes are, or what is wrong with them; what is encoded is decoded, and what is decoded is encoded so. Conditions: as each theorem says. -/
import Derived.Test.YtlbacddgjagcbaaValEn
import Derived.Test.YtlbacddgjagcbaaValDd
namespace Go.Proofs.Ytlbacddgjagcbaa
open Go.RowKit

/-- The message that bytes are behind their type, and what is wrong. -/
def restR (x : Mv × Bool × Rd) : Mv × Nat :=
  if x.2.2.e ≠ 0 then (.none, x.2.2.e) else if (x.2.1 || !rightMv x.1) = true then (.none, 11) else if x.2.2.l ≠ [] then (.none, 12) else (x.1, 0)
def decR (l : List UInt8) : Mv × Nat :=
  if (numR ⟨l, 0⟩).2.e ≠ 0 then (.none, (numR ⟨l, 0⟩).2.e) else
  if isKind (numR ⟨l, 0⟩).1 = false then (.none, 14) else restR (msgR (numR ⟨l, 0⟩).1 (numR ⟨l, 0⟩).2)

/-! What is read was written so. -/
theorem numR_sticky (r : Rd) (h : (numR r).2.e = 0) : r.e = 0 := by
  by_cases he : r.e = 0
  · exact he
  · rw [numR_e r he] at h; exact h
theorem numR_fwd (r : Rd) (h : (numR r).2.e = 0) : r.l = numL (numR r).1 ++ (numR r).2.l := by
  have he := numR_sticky r h
  unfold numR at h ⊢
  rw [if_neg (by omega)] at h ⊢
  by_cases hd : (dec 0 0 r.l).1 = 0
  · rw [if_pos hd]
    have := dec_num_back r.l (dec 0 0 r.l).2.2 (dec 0 0 r.l).2.1 (Prod.ext hd (Prod.ext rfl rfl))
    simp only
    unfold numL
    rw [zig_unzig]; exact this
  · rw [if_neg hd] at h; simp only at h; omega
theorem numsR_sticky (k : Nat) : ∀ r, (numsR k r).2.e = 0 → r.e = 0 := by
  induction k with
  | zero => intro r h; exact h
  | succ k ih => intro r h; exact numR_sticky r (ih _ h)
theorem numsR_fwd (k : Nat) : ∀ r, (numsR k r).2.e = 0 → r.l = numsL (numsR k r).1 ++ (numsR k r).2.l := by
  induction k with
  | zero => intro r _; simp [numsR, numsL]
  | succ k ih =>
    intro r h
    have h1 := numR_fwd r (numsR_sticky k _ h)
    have h2 := ih _ h
    simp only [numsR]
    rw [numsL_at, List.append_assoc, ← h2]; exact h1
theorem textR_sticky (r : Rd) (h : (textR r).2.e = 0) : (numR r).2.e = 0 := by
  by_cases he : (numR r).2.e = 0
  · exact he
  · rw [textR_w r he] at h; exact h
theorem textR_fwd (r : Rd) (h : (textR r).2.e = 0) : r.l = textL (textR r).1 ++ (textR r).2.l := by
  have he := textR_sticky r h
  have h1 := numR_fwd r he
  by_cases hn : (numR r).1 < 0
  · rw [textR_n r he hn] at h; simp at h
  · by_cases hs : ((numR r).2.l.length : Int) < (numR r).1
    · rw [textR_s r he hn hs] at h; simp at h
    · rw [textR_o r he hn hs]
      simp only
      have hl : (((numR r).2.l.take (numR r).1.toNat).length : Int) = (numR r).1 := by rw [List.length_take]; omega
      unfold textL
      rw [hl, List.append_assoc, List.take_append_drop]; exact h1
theorem list2 (l : List Int) (h : l.length = 2) : l = [l.getD 0 0, l.getD 1 0] := by match l, h with | [_, _], _ => rfl
theorem list3 (l : List Int) (h : l.length = 3) : l = [l.getD 0 0, l.getD 1 0, l.getD 2 0] := by match l, h with | [_, _, _], _ => rfl
theorem list5 (l : List Int) (h : l.length = 5) : l = [l.getD 0 0, l.getD 1 0, l.getD 2 0, l.getD 3 0, l.getD 4 0] := by match l, h with | [_, _, _, _, _], _ => rfl
theorem list6 (l : List Int) (h : l.length = 6) : l = [l.getD 0 0, l.getD 1 0, l.getD 2 0, l.getD 3 0, l.getD 4 0, l.getD 5 0] := by match l, h with | [_, _, _, _, _, _], _ => rfl
theorem entR_sticky (r : Rd) (h : (entR r).2.e = 0) : r.e = 0 := numsR_sticky 2 r (numR_sticky _ (textR_sticky _ h))
theorem entR_fwd (r : Rd) (h : (entR r).2.e = 0) : r.l = entL (entR r).1 ++ (entR r).2.l := by
  have h1 := numsR_fwd 2 r (numR_sticky _ (textR_sticky _ h))
  have h2 := textR_fwd _ h
  rw [list2 _ (numsR_len 2 r)] at h1
  unfold entL
  rw [List.append_assoc]
  rw [h1, h2]; rfl
theorem entsR_fwd (k : Nat) : ∀ (D : List Ent) (r : Rd), (entsR k D r).2.e = 0 → ∃ E, (entsR k D r).1 = D ++ E ∧ E.length = k ∧ r.l = E.flatMap entL ++ (entsR k D r).2.l ∧ r.e = 0 := by
  induction k with
  | zero => intro D r h; exact ⟨[], by simp [entsR], rfl, by simp [entsR], h⟩
  | succ k ih =>
    intro D r h
    unfold entsR at h ⊢
    by_cases he : r.e = 0
    · rw [if_neg (by omega)] at h ⊢
      obtain ⟨E, h1, h2, h3, h4⟩ := ih _ _ h
      refine ⟨(entR r).1 :: E, by rw [h1]; simp, by simp [h2], ?_, he⟩
      rw [List.flatMap_cons, List.append_assoc, ← h3]
      exact entR_fwd r h4
    · rw [if_pos he] at h; exact absurd h he
theorem badFlag_no {n : Int} (h : badFlag n = false) : n = flagI (decide (n = 1)) := by
  unfold badFlag at h
  unfold flagI
  by_cases h1 : n = 1
  · simp [h1]
  · by_cases h0 : n = 0
    · simp [h0]
    · simp [h0, h1] at h
theorem bytes_vote (l : Int) (z : Int × Int) (p r s : Int) : bytesMv (.vote l z p r s) = numsL [1, l, z.1, z.2, p, r, s] := rfl
theorem bytes_info (k p o : Int) (z : Int × Int) : bytesMv (.info k p o z) = numsL [2, k, p, o, z.1, z.2] := rfl
theorem bytes_sync (k p : Int) (f z : Int × Int) (b : List UInt8) (L : List Ent) : bytesMv (.sync k p f z b L) = syncL k p f z b L := rfl
theorem bytes_prop (x : Ent) : bytesMv (.prop x) = numsL [4] ++ entL x := rfl
theorem bytes_ack (f : Bool) (z : Int × Int) : bytesMv (.ack f z) = numsL [5, flagI f, z.1, z.2] := rfl
theorem bytes_ask (n c q : Int) (f : Bool) (b : List UInt8) : bytesMv (.ask n c q f b) = numsL [6, n, c, q, flagI f] ++ textL b := rfl
set_option maxHeartbeats 1600000 in
/-- What is read is what was written. -/
theorem msgR_fwd (k : Int) (r : Rd) (hk : isKind k = true) (he : (msgR k r).2.2.e = 0) (hb : (msgR k r).2.1 = false) : numL k ++ r.l = bytesMv (msgR k r).1 ++ (msgR k r).2.2.l := by
  unfold isKind at hk
  simp only [Bool.and_eq_true, decide_eq_true_eq] at hk
  unfold msgR at he hb ⊢
  by_cases h1 : k = 1
  · subst h1
    simp only [if_true] at he hb ⊢
    simp only [voteR] at he hb ⊢
    have h := numsR_fwd 6 r he
    rw [list6 _ (numsR_len 6 r)] at h
    rw [bytes_vote]
    rw [numsL_at, List.append_assoc]
    congr 1
  rw [if_neg h1] at he hb ⊢
  by_cases h2 : k = 2
  · subst h2
    simp only [if_true] at he hb ⊢
    simp only [infoR] at he hb ⊢
    have h := numsR_fwd 5 r he
    rw [list5 _ (numsR_len 5 r)] at h
    rw [bytes_info]
    rw [numsL_at, List.append_assoc]
    congr 1
  rw [if_neg h2] at he hb ⊢
  by_cases h3 : k = 3
  · subst h3
    simp only [if_true] at he hb ⊢
    simp only [syncR] at he hb ⊢
    have hbn := hb
    have he' := he
    have hn0 : 0 ≤ (syncNR r).1 := by
      unfold badNum at hbn
      simp only [Bool.or_eq_false_iff, decide_eq_false_iff_not] at hbn
      omega
    have hER : syncER r = entsR (syncNR r).1.toNat [] (syncNR r).2 := by unfold syncER; rw [hbn]; simp
    rw [hER] at he'
    obtain ⟨E, e1, e2, e3, e4⟩ := entsR_fwd _ _ _ he'
    have hN : (syncNR r).1 = (E.length : Int) := by have := Int.toNat_of_nonneg hn0; rw [← e2] at this; exact this.symm
    have e4' : (numR (textR (numsR 6 r).2).2).2.e = 0 := by have h := e4; unfold syncNR at h; exact h
    have hNf : (textR (numsR 6 r).2).2.l = numL (syncNR r).1 ++ (syncNR r).2.l := by unfold syncNR; exact numR_fwd (textR (numsR 6 r).2).2 e4'
    have e5 : (textR (numsR 6 r).2).2.e = 0 := numR_sticky (textR (numsR 6 r).2).2 e4'
    have hT := textR_fwd (numsR 6 r).2 e5
    have hS := numsR_fwd 6 r (numR_sticky (numsR 6 r).2 (textR_sticky (numsR 6 r).2 e5))
    rw [list6 _ (numsR_len 6 r)] at hS
    rw [bytes_sync, hER, e1, List.nil_append]
    unfold syncL syncHead
    rw [numsL_at, ← hN]
    have hone : numsL [(syncNR r).1] = numL (syncNR r).1 := by simp [numsL]
    rw [hone]
    simp only [List.append_assoc]
    rw [← e3, ← hNf, ← hT, ← hS]
  rw [if_neg h3] at he hb ⊢
  by_cases h4 : k = 4
  · subst h4
    simp only [if_true] at he hb ⊢
    have h := entR_fwd r he
    rw [bytes_prop]
    rw [numsL_at, List.append_assoc, List.append_assoc]
    congr 1
  rw [if_neg h4] at he hb ⊢
  by_cases h5 : k = 5
  · subst h5
    simp only [if_true] at he hb ⊢
    simp only [ackR] at he hb ⊢
    have h := numsR_fwd 2 _ he
    rw [list2 _ (numsR_len 2 _)] at h
    have h0 := numR_fwd r (numsR_sticky 2 _ he)
    have hf := badFlag_no hb
    rw [bytes_ack]
    rw [numsL_at, numsL_at, List.append_assoc, List.append_assoc, ← hf]
    congr 1
    refine h0.trans ?_
    congr 1
  rw [if_neg h5] at he hb ⊢
  obtain rfl : k = 6 := by omega
  simp only [if_true] at he hb ⊢
  simp only [askR] at he hb ⊢
  have ht := textR_fwd _ he
  have hn := textR_sticky _ he
  have h0 := numR_fwd _ (numR_sticky _ hn)
  have h := numsR_fwd 3 r (numR_sticky _ (numR_sticky _ hn))
  have hf := badFlag_no hb
  rw [list3 _ (numsR_len 3 r)] at h
  rw [bytes_ask]
  rw [← hf]
  have e : ∀ a b c d : Int, numsL [6, a, b, c, d] = numL 6 ++ (numsL [a, b, c] ++ numL d) := by intro a b c d; simp [numsL]
  rw [e]
  simp only [List.append_assoc]
  congr 1
  refine h.trans ?_
  congr 1
  refine h0.trans ?_
  congr 1
/-- THE LAW's answer: what is decoded is encoded so. -/
theorem dec_fwd (l : List UInt8) (h : (decR l).2 = 0) : rightMv (decR l).1 = true ∧ bytesMv (decR l).1 = l := by
  unfold decR at h ⊢
  by_cases h1 : (numR ⟨l, 0⟩).2.e = 0
  · rw [if_neg (by omega)] at h ⊢
    by_cases h2 : isKind (numR ⟨l, 0⟩).1 = true
    · rw [if_neg (by simp [h2])] at h ⊢
      have hm := msgR_fwd _ (numR ⟨l, 0⟩).2 h2
      have h0 := numR_fwd _ h1
      generalize msgR (numR ⟨l, 0⟩).1 (numR ⟨l, 0⟩).2 = x at *
      unfold restR at h ⊢
      by_cases h3 : x.2.2.e = 0
      · rw [if_neg (by omega)] at h ⊢
        by_cases h4 : (x.2.1 || !rightMv x.1) = true
        · rw [if_pos h4] at h; simp at h
        · rw [if_neg h4] at h ⊢
          by_cases h5 : x.2.2.l = []
          · rw [if_neg (by simp [h5])]
            simp only [Bool.not_eq_true, Bool.or_eq_false_iff, Bool.not_eq_false'] at h4
            refine ⟨h4.2, ?_⟩
            have := hm h3 h4.1
            rw [h5, List.append_nil] at this
            rw [← this]; exact h0.symm
          · rw [if_pos h5] at h; simp at h
      · rw [if_pos h3] at h; exact absurd h h3
    · rw [if_pos (by simpa using h2)] at h; simp at h
  · rw [if_pos h1] at h; exact absurd h h1
theorem dec_none (l : List UInt8) (h : (decR l).2 ≠ 0) : (decR l).1 = .none := by
  unfold decR at h ⊢
  split
  · rfl
  · rename_i h1
    rw [if_neg h1] at h
    split
    · rfl
    · rename_i h2
      rw [if_neg h2] at h
      unfold restR at h ⊢
      split
      · rfl
      · rename_i h3
        rw [if_neg h3] at h
        split
        · rfl
        · rename_i h4
          rw [if_neg h4] at h
          split
          · rfl
          · rename_i h5
            rw [if_neg h5] at h; exact absurd rfl h
theorem dec_msg (l : List UInt8) (h : (decR l).2 = 0) : (decR l).1 = (msgR (numR ⟨l, 0⟩).1 (numR ⟨l, 0⟩).2).1 := by
  unfold decR at h ⊢
  split
  · rename_i h1
    rw [if_pos h1] at h; exact absurd h h1
  rename_i h1
  rw [if_neg h1] at h
  split
  · rename_i h2
    rw [if_pos h2] at h; simp at h
  rename_i h2
  rw [if_neg h2] at h
  unfold restR at h ⊢
  split
  · rename_i h3
    rw [if_pos h3] at h; exact absurd h h3
  rename_i h3
  rw [if_neg h3] at h
  split
  · rename_i h4
    rw [if_pos h4] at h; simp at h
  rename_i h4
  rw [if_neg h4] at h
  split
  · rename_i h5
    rw [if_pos h5] at h; simp at h
  · rfl
/-! What is written is read. -/
theorem numsR_back (l : List Int) : ∀ (q : List UInt8), (∀ n ∈ l, i64B n) → numsR l.length ⟨numsL l ++ q, 0⟩ = (l, ⟨q, 0⟩) := by
  induction l with
  | nil => intro q _; simp [numsR, numsL]
  | cons n l ih =>
    intro q h
    have hn := h n (by simp)
    have h1 := numR_back n (numsL l ++ q) hn.1 hn.2
    have h2 := ih q (fun x hx => h x (by simp [hx]))
    rw [numsL_at, List.append_assoc, List.length_cons]
    simp only [numsR, h1, h2]
theorem entR_back (x : Ent) (q : List UInt8) (h : entOk x) : entR ⟨entL x ++ q, 0⟩ = (x, ⟨q, 0⟩) := by
  obtain ⟨e, c, b⟩ := x
  have h1 : numsR 2 ⟨numsL [e, c] ++ (textL b ++ q), 0⟩ = ([e, c], ⟨textL b ++ q, 0⟩) := numsR_back [e, c] _ (by intro n hn; simp only [List.mem_cons, List.not_mem_nil, or_false] at hn; rcases hn with rfl | rfl; exact h.1; exact h.2.1)
  have hb : b.length ≤ 1000000 := h.2.2
  have h2 := textR_back b q (by omega)
  unfold entR entL
  simp only [List.append_assoc]
  rw [h1]
  simp only
  rw [h2]; rfl
theorem entsR_back (L : List Ent) : ∀ (D : List Ent) (q : List UInt8), (∀ x ∈ L, entOk x) → entsR L.length D ⟨L.flatMap entL ++ q, 0⟩ = (D ++ L, ⟨q, 0⟩) := by
  induction L with
  | nil => intro D q _; simp [entsR]
  | cons x L ih =>
    intro D q h
    have h1 := entR_back x (L.flatMap entL ++ q) (h x (by simp))
    rw [List.flatMap_cons, List.append_assoc, List.length_cons]
    simp only [entsR, ne_eq, not_true_eq_false, if_false, h1]
    rw [ih _ _ (fun y hy => h y (by simp [hy]))]
    simp
theorem flag_back (f : Bool) : badFlag (flagI f) = false ∧ decide (flagI f = 1) = f := by cases f <;> simp [badFlag, flagI]
theorem i64c {n : Int} {l : List Int} (h : i64B n) (k : ∀ x ∈ l, i64B x) : ∀ x ∈ n :: l, i64B x := by
  intro x hx
  simp only [List.mem_cons] at hx
  rcases hx with rfl | hx
  · exact h
  · exact k x hx
theorem i64n : ∀ x ∈ ([] : List Int), i64B x := by intro x hx; simp at hx
theorem i64f (f : Bool) : i64B (flagI f) := by unfold i64B flagI; cases f <;> simp
/-- THE LAW's answer: what is encoded is decoded. -/
theorem dec_bytes (x : Mv) (hx : okMv x) (hr : rightMv x = true) : decR (bytesMv x) = (x, 0) := by
  have key : ∀ (k : Int) (q : List UInt8), bytesMv x = numL k ++ q → i64B k → isKind k = true → msgR k ⟨q, 0⟩ = (x, false, ⟨[], 0⟩) → decR (bytesMv x) = (x, 0) := by
    intro k q h1 h2 h3 h4
    have hn := numR_back k q h2.1 h2.2
    unfold decR
    rw [h1, hn]
    simp only [ne_eq, not_true_eq_false, if_false, h3]
    rw [h4]
    simp [restR, hr]
  cases x with
  | vote l z p r s =>
    obtain ⟨h1, h2, h3, h4, h5, h6⟩ := hx
    obtain ⟨z1, z2⟩ := z
    refine key 1 (numsL [l, z1, z2, p, r, s]) (numsL_at _ _) ⟨by decide, by decide⟩ rfl ?_
    have h := numsR_back [l, z1, z2, p, r, s] [] (i64c h1 (i64c h2 (i64c h3 (i64c h4 (i64c h5 (i64c h6 i64n))))))
    rw [List.append_nil] at h
    simp only [List.length_cons, List.length_nil] at h
    simp [msgR, voteR, h]
  | info k p o z =>
    obtain ⟨h1, h2, h3, h4, h5⟩ := hx
    obtain ⟨z1, z2⟩ := z
    refine key 2 (numsL [k, p, o, z1, z2]) (numsL_at _ _) ⟨by decide, by decide⟩ rfl ?_
    have h := numsR_back [k, p, o, z1, z2] [] (i64c h1 (i64c h2 (i64c h3 (i64c h4 (i64c h5 i64n)))))
    rw [List.append_nil] at h
    simp only [List.length_cons, List.length_nil] at h
    simp [msgR, infoR, h]
  | sync k p f z b L =>
    obtain ⟨h1, h2, h3, h4, h5, h6, h7, h8, h9⟩ := hx
    have hfew := sync_few hr
    obtain ⟨z1, z2⟩ := z
    obtain ⟨f1, f2⟩ := f
    refine key 3 (numsL [k, p, f1, f2, z1, z2] ++ (textL b ++ (numL (L.length : Int) ++ L.flatMap entL))) ?_ ⟨by decide, by decide⟩ rfl ?_
    · show syncL _ _ _ _ _ _ = _
      unfold syncL syncHead
      simp only
      rw [numsL_at, show numsL [(L.length : Int)] = numL (L.length : Int) by simp [numsL]]
      simp only [List.append_assoc]
    have h := numsR_back [k, p, f1, f2, z1, z2] (textL b ++ (numL (L.length : Int) ++ L.flatMap entL)) (i64c h1 (i64c h2 (i64c h3 (i64c h4 (i64c h5 (i64c h6 i64n))))))
    simp only [List.length_cons, List.length_nil] at h
    have ht := textR_back b (numL (L.length : Int) ++ L.flatMap entL) (by omega)
    have hn := numR_back (L.length : Int) (L.flatMap entL) (by omega) (by omega)
    have he := entsR_back L [] [] h9
    rw [List.append_nil, List.nil_append] at he
    have hbn : badNum (L.length : Int) = false := by unfold badNum; simp; omega
    simp [msgR, syncR, syncER, syncNR, h, ht, hn, he, hbn]
  | prop x =>
    refine key 4 (entL x) ?_ ⟨by decide, by decide⟩ rfl ?_
    · show numsL [4] ++ entL x = _
      rw [numsL_at]; simp [numsL]
    have h := entR_back x [] hx.1
    rw [List.append_nil] at h
    simp [msgR, h]
  | ack f z =>
    obtain ⟨h1, h2⟩ := hx
    obtain ⟨z1, z2⟩ := z
    refine key 5 (numL (flagI f) ++ numsL [z1, z2]) ?_ ⟨by decide, by decide⟩ rfl ?_
    · show numsL [5, flagI f, z1, z2] = _
      rw [numsL_at, numsL_at]
    have h0 := numR_back (flagI f) (numsL [z1, z2]) (i64f f).1 (i64f f).2
    have h := numsR_back [z1, z2] [] (i64c h1 (i64c h2 i64n))
    rw [List.append_nil] at h
    simp only [List.length_cons, List.length_nil] at h
    simp [msgR, ackR, h0, h, flag_back f]
  | ask n c q f b =>
    obtain ⟨h1, h2, h3, h4⟩ := hx
    refine key 6 (numsL [n, c, q] ++ (numL (flagI f) ++ textL b)) ?_ ⟨by decide, by decide⟩ rfl ?_
    · show numsL [6, n, c, q, flagI f] ++ textL b = _
      simp [numsL]
    have h := numsR_back [n, c, q] (numL (flagI f) ++ textL b) (i64c h1 (i64c h2 (i64c h3 i64n)))
    simp only [List.length_cons, List.length_nil] at h
    have h0 := numR_back (flagI f) (textL b) (i64f f).1 (i64f f).2
    have ht := textR_back b [] (by omega)
    rw [List.append_nil] at ht
    simp [msgR, askR, h, h0, ht, flag_back f]
  | none => simp [rightMv] at hr
/-! What is read is no greater than it may be. -/
theorem entR_ok (r : Rd) (h : r.l.length ≤ 1000000) : entOk (entR r).1 := ⟨numsR_get 2 r 0, numsR_get 2 r 1, Nat.le_trans (Nat.le_trans (textR_le _) (numsR_le 2 r)) h⟩
theorem entsR_ok (k : Nat) : ∀ (D : List Ent) (r : Rd), r.l.length ≤ 1000000 → (∀ x ∈ D, entOk x) → ∀ x ∈ (entsR k D r).1, entOk x := by
  induction k with
  | zero => intro D r _ h; exact h
  | succ k ih =>
    intro D r hl h
    unfold entsR
    split
    · exact h
    · refine ih _ _ (Nat.le_trans (entR_le r) hl) ?_
      intro x hx
      rcases List.mem_append.1 hx with hx | hx
      · exact h x hx
      · simp only [List.mem_cons, List.not_mem_nil, or_false] at hx
        rw [hx]; exact entR_ok r hl
theorem syncER_few (r : Rd) : (syncER r).1.length ≤ 1000 := by
  unfold syncER
  split
  · simp
  · rename_i h
    unfold badNum at h
    simp only [Bool.or_eq_true, decide_eq_true_eq, not_or] at h
    have := entsR_few (syncNR r).1.toNat [] (syncNR r).2
    simp only [List.length_nil] at this
    omega
theorem ent_fit {x : Ent} (h : entOk x) : x.ok := by
  obtain ⟨h1, h2, h3⟩ := h
  exact ⟨wf_i64 h1, wf_i64 h2, by unfold maxLen; omega⟩
theorem msgR_ok (k : Int) (r : Rd) (h : r.l.length ≤ 1000000) : okMv (msgR k r).1 := by
  unfold msgR
  split
  · exact ⟨numsR_get 6 r 0, numsR_get 6 r 1, numsR_get 6 r 2, numsR_get 6 r 3, numsR_get 6 r 4, numsR_get 6 r 5⟩
  split
  · exact ⟨numsR_get 5 r 0, numsR_get 5 r 1, numsR_get 5 r 2, numsR_get 5 r 3, numsR_get 5 r 4⟩
  split
  · have h6 := Nat.le_trans (numsR_le 6 r) h
    have ht := Nat.le_trans (textR_len (numsR 6 r).2) h6
    have hn : (syncNR r).2.l.length ≤ 1000000 := by unfold syncNR; exact Nat.le_trans (numR_len (textR (numsR 6 r).2).2) ht
    refine ⟨numsR_get 6 r 0, numsR_get 6 r 1, numsR_get 6 r 2, numsR_get 6 r 3, numsR_get 6 r 4, numsR_get 6 r 5, Nat.le_trans (textR_le (numsR 6 r).2) h6, Nat.le_trans (syncER_few r) (by omega), ?_⟩
    intro x hx
    unfold syncER at hx
    split at hx
    · simp at hx
    · exact entsR_ok _ _ _ hn (by simp) x hx
  split
  · exact ⟨entR_ok r h, ent_fit (entR_ok r h)⟩
  split
  · exact ⟨numsR_get 2 (numR r).2 0, numsR_get 2 (numR r).2 1⟩
  split
  · exact ⟨numsR_get 3 r 0, numsR_get 3 r 1, numsR_get 3 r 2, Nat.le_trans (Nat.le_trans (textR_le (numR (numsR 3 r).2).2) (Nat.le_trans (numR_len (numsR 3 r).2) (numsR_le 3 r))) h⟩
  exact trivial
theorem decR_ok (l : List UInt8) (h : l.length ≤ 1000000) : okMv (decR l).1 := by
  unfold decR
  split
  · exact trivial
  split
  · exact trivial
  · have hm := msgR_ok (numR ⟨l, 0⟩).1 (numR ⟨l, 0⟩).2 (Nat.le_trans (numR_len _) h)
    generalize msgR (numR ⟨l, 0⟩).1 (numR ⟨l, 0⟩).2 = x at *
    unfold restR
    split
    · exact trivial
    split
    · exact trivial
    split
    · exact trivial
    · exact hm
end Go.Proofs.Ytlbacddgjagcbaa
