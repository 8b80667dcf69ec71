/- The plain laws of Prefix and Apart: what lies between a text and its Next; a quoted text is read back. Conditions: as each theorem says. -/
import Derived.Test.YtmiloedhhnknpaaDoorNamQ
namespace Go.Proofs.YtmiloedhhnknpaaDoor

/-! What lies between a text and its Next. -/
def nxF : Nat → List UInt8 → Option (List UInt8)
  | 0, _ => none
  | k + 1, l => if l.getD k 0 < 255 then some (l.take k ++ [l.getD k 0 + 1]) else nxF k l
theorem nextF_nx (k : Nat) (l : List UInt8) : nextF k l = (nxF k l).getD [0] := by
  induction k with
  | zero => rfl
  | succ k ih =>
    unfold nextF nxF
    split
    · rfl
    · exact ih
def nxt : List UInt8 → Option (List UInt8)
  | [] => none
  | a :: t => match nxt t with
    | some e => some (a :: e)
    | none => if a < 255 then some [a + 1] else none
theorem nxF_cons (a : UInt8) (t : List UInt8) : ∀ k, nxF (k + 1) (a :: t) = match nxF k t with | some e => some (a :: e) | none => if a < 255 then some [a + 1] else none
  | 0 => by simp [nxF]
  | k + 1 => by
    rw [nxF, show (a :: t).getD (k + 1) 0 = t.getD k 0 from rfl]
    conv => rhs; rw [nxF]
    split
    · simp
    · exact nxF_cons a t k
theorem nxF_nxt : ∀ l : List UInt8, nxF l.length l = nxt l
  | [] => rfl
  | a :: t => by rw [List.length_cons, nxF_cons, nxF_nxt t, nxt]
theorem nextL_eq (l : List UInt8) : nextL l = (nxt l).getD [0] := by unfold nextL; rw [nextF_nx, nxF_nxt]
theorem u8_succ (a : UInt8) (h : a < 255) : (a + 1).toNat = a.toNat + 1 := by
  have := UInt8.lt_iff_toNat_lt.1 h
  rw [UInt8.toNat_add]
  show (a.toNat + 1) % 256 = _
  have e : (255 : UInt8).toNat = 255 := rfl
  omega
theorem nxt_some : ∀ (l e : List UInt8), nxt l = some e → e ≠ [] ∧ e ≠ [0]
  | [], e, h => by cases h
  | a :: t, e, h => by
    rw [nxt] at h
    split at h
    · rename_i e' he
      cases h
      refine ⟨by simp, ?_⟩
      intro hh
      have := (nxt_some t e' he).1
      simp at hh
      exact this hh.2
    · split at h
      · rename_i ha
        cases h
        refine ⟨by simp, fun hh => ?_⟩
        have h1 := u8_succ a ha
        have h2 : a + 1 = 0 := by simpa using hh
        rw [h2] at h1
        simp at h1
      · cases h
theorem nxt_law : ∀ (s key : List UInt8), (match nxt s with | some e => Op.bytesLess key s = false ∧ Op.bytesLess key e = true | none => Op.bytesLess key s = false) ↔ s <+: key
  | [], key => by simp [nxt, Op.bytesLess]
  | a :: t, [] => by
    rw [nxt]
    have e1 : Op.bytesLess [] (a :: t) = true := rfl
    cases nxt t with
    | some e' => simp [e1]
    | none =>
      by_cases ha : a < 255
      · simp [e1, ha]
      · simp [e1, ha]
  | a :: t, b :: r => by
    have ih := nxt_law t r
    rw [nxt, List.cons_prefix_cons]
    have e1 : Op.bytesLess (b :: r) (a :: t) = (decide (b < a) || (b == a && Op.bytesLess r t)) := rfl
    have tri : b < a ∨ b = a ∨ a < b := by
      rcases Nat.lt_trichotomy b.toNat a.toNat with h | h | h
      · exact .inl (UInt8.lt_iff_toNat_lt.2 h)
      · exact .inr (.inl (UInt8.toNat_inj.1 h))
      · exact .inr (.inr (UInt8.lt_iff_toNat_lt.2 h))
    have ne1 : b < a → ¬ b = a := fun h e => by subst e; exact absurd (UInt8.lt_iff_toNat_lt.1 h) (Nat.lt_irrefl _)
    have ne2 : a < b → ¬ b = a := fun h e => by subst e; exact absurd (UInt8.lt_iff_toNat_lt.1 h) (Nat.lt_irrefl _)
    have nlt : a < b → ¬ b < a := fun h h' => by have := UInt8.lt_iff_toNat_lt.1 h; have := UInt8.lt_iff_toNat_lt.1 h'; omega
    cases hn : nxt t with
    | some e' =>
      rw [hn] at ih
      simp only at ih ⊢
      have e2 : Op.bytesLess (b :: r) (a :: e') = (decide (b < a) || (b == a && Op.bytesLess r e')) := rfl
      rw [e1, e2]
      rcases tri with h | h | h
      · have := ne1 h
        have h' : ¬ a = b := fun e => this e.symm
        simp [h, h']
      · subst h
        have hl : ¬ b < b := fun h => absurd (UInt8.lt_iff_toNat_lt.1 h) (Nat.lt_irrefl _)
        simp [hl, ih]
      · have := ne2 h
        have h' : ¬ a = b := fun e => this e.symm
        simp [this, h', nlt h]
    | none =>
      rw [hn] at ih
      simp only at ih
      by_cases ha : a < 255
      · simp only [if_pos ha]
        have hs := u8_succ a ha
        have e2 : Op.bytesLess (b :: r) [a + 1] = decide (b < a + 1) := by
          show (decide (b < a + 1) || (b == a + 1 && Op.bytesLess r [])) = _
          cases r <;> simp [Op.bytesLess]
        rw [e1, e2]
        rcases tri with h | h | h
        · have := ne1 h
          have h' : ¬ a = b := fun e => this e.symm
          simp [h, h']
        · subst h
          have hl : ¬ b < b := fun h => absurd (UInt8.lt_iff_toNat_lt.1 h) (Nat.lt_irrefl _)
          have hl2 : b < b + 1 := UInt8.lt_iff_toNat_lt.2 (by omega)
          simp [hl, hl2, ih]
        · have := ne2 h
          have h' : ¬ a = b := fun e => this e.symm
          have h3 : ¬ b < a + 1 := fun hh => by have := UInt8.lt_iff_toNat_lt.1 hh; have := UInt8.lt_iff_toNat_lt.1 h; omega
          simp [h', h3]
      · simp only [if_neg ha]
        rw [e1]
        rcases tri with h | h | h
        · have := ne1 h
          have h' : ¬ a = b := fun e => this e.symm
          simp [h, h']
        · subst h
          have hl : ¬ b < b := fun h => absurd (UInt8.lt_iff_toNat_lt.1 h) (Nat.lt_irrefl _)
          simp [hl, ih]
        · exfalso
          have h4 := UInt8.toNat_lt b
          have h5 := UInt8.lt_iff_toNat_lt.1 h
          exact ha (UInt8.lt_iff_toNat_lt.2 (by show _ < 255; omega))
/-- THE PLAIN LAW OF PREFIX. -/
theorem in_next (s key : List UInt8) : inL key s (nextL s) = decide (s <+: key) := by
  have h := nxt_law s key
  rw [nextL_eq]
  unfold inL
  cases hn : nxt s with
  | some e =>
    rw [hn] at h
    simp only at h
    obtain ⟨h1, h2⟩ := nxt_some s e hn
    have e1 : e.isEmpty = false := by cases e <;> simp_all
    have e2 : (e == [0]) = false := by simpa using h2
    simp only [Option.getD_some, e1, e2, Bool.false_eq_true, if_false]
    rw [Bool.eq_iff_iff, decide_eq_true_eq, ← h]
    cases Op.bytesLess key s <;> simp
  | none =>
    rw [hn] at h
    simp only at h
    simp only [Option.getD_none, List.isEmpty_cons, Bool.false_eq_true, if_false, beq_self_eq_true, if_true]
    rw [Bool.eq_iff_iff, decide_eq_true_eq, ← h]
    cases Op.bytesLess key s <;> simp

/-! A quoted text is read back. -/
def hv (c : UInt8) : Nat := if c.toNat < 58 then c.toNat - 48 else c.toNat - 87
theorem hv_dig (n : Nat) (h : n < 16) : hv (dig n) = n := by
  have key : ∀ k : Fin 16, hv (dig k.val) = k.val := by decide +kernel
  exact key ⟨n, h⟩
theorem dig_ne (n : Nat) (h : n < 16) : dig n ≠ 125 := by
  have key : ∀ k : Fin 16, dig k.val ≠ 125 := by decide +kernel
  exact key ⟨n, h⟩
def hexV (l : List UInt8) : Nat := l.foldl (fun n c => 16 * n + hv c) 0
theorem hexV_hexL (n : Nat) : hexV (hexL n) = n := by
  induction n using Nat.strongRecOn with
  | ind n ih =>
    by_cases h : n < 16
    · rw [hexL_lo n h]
      show 16 * 0 + hv (dig n) = n
      rw [hv_dig n h]; omega
    · rw [hexL_hi n (by omega)]
      unfold hexV
      rw [List.foldl_append]
      have := ih (n / 16) (by omega)
      unfold hexV at this
      rw [this]
      show 16 * (n / 16) + hv (dig (n % 16)) = n
      rw [hv_dig _ (by omega)]; omega
theorem hexL_ne (n : Nat) : ∀ c ∈ hexL n, c ≠ 125 := by
  induction n using Nat.strongRecOn with
  | ind n ih =>
    by_cases h : n < 16
    · rw [hexL_lo n h]
      intro c hc
      simp at hc
      subst hc
      exact dig_ne n h
    · rw [hexL_hi n (by omega)]
      intro c hc
      rcases List.mem_append.1 hc with h1 | h1
      · exact ih (n / 16) (by omega) c h1
      · simp at h1
        subst h1
        exact dig_ne _ (by omega)
def upTo (l : List UInt8) : List UInt8 := l.takeWhile (fun c => c != 125)
def from_ (l : List UInt8) : List UInt8 := (l.dropWhile (fun c => c != 125)).drop 1
theorem upTo_app (a b : List UInt8) (h : ∀ c ∈ a, c ≠ 125) : upTo (a ++ [125] ++ b) = a ∧ from_ (a ++ [125] ++ b) = b := by
  induction a with
  | nil => exact ⟨rfl, rfl⟩
  | cons c a ih =>
    have hc : (c != 125) = true := by have := h c (by simp); simpa using this
    obtain ⟨h1, h2⟩ := ih (fun c hc => h c (by simp [hc]))
    unfold upTo from_ at *
    simp only [List.cons_append, List.takeWhile_cons, List.dropWhile_cons, hc, if_true]
    exact ⟨by rw [h1], h2⟩
/-- The first sign or escape, and what is behind it. -/
def parseL (q : List UInt8) : List UInt8 × List UInt8 :=
  if q.getD 0 0 ≠ 92 then (q.take 1, q.drop 1)
  else if q.getD 1 0 = 120 then ([UInt8.ofNat (16 * hv (q.getD 2 0) + hv (q.getD 3 0))], q.drop 4)
  else (Lib.encodeRune (hexV (upTo (q.drop 3)) : Int), from_ (q.drop 3))
theorem u8_ofNat (n : Nat) (h : n < 256) : (UInt8.ofNat n).toNat = n := by simp [UInt8.toNat_ofNat']; omega
theorem enc_two (r : Nat) (h0 : 128 ≤ r) (h1 : r ≤ 2047) : Lib.encodeRune (r : Int) = [UInt8.ofNat (192 + r / 64), UInt8.ofNat (128 + r % 64)] := by
  unfold Lib.encodeRune
  rw [Lib.encodeRuneZ_two (by omega) (by omega)]
  simp only [List.map_cons, List.map_nil]
  rw [show (192 + (r : Int) / 64).toNat = 192 + r / 64 by omega, show (128 + (r : Int) % 64).toNat = 128 + r % 64 by omega]
theorem enc_three (r : Nat) (h : (2048 ≤ r ∧ r < 55296) ∨ (57343 < r ∧ r ≤ 65535)) : Lib.encodeRune (r : Int) = [UInt8.ofNat (224 + r / 4096), UInt8.ofNat (128 + r / 64 % 64), UInt8.ofNat (128 + r % 64)] := by
  unfold Lib.encodeRune
  rw [Lib.encodeRuneZ_three (by omega)]
  simp only [List.map_cons, List.map_nil]
  rw [show (224 + (r : Int) / 4096).toNat = 224 + r / 4096 by omega, show (128 + (r : Int) / 64 % 64).toNat = 128 + r / 64 % 64 by omega, show (128 + (r : Int) % 64).toNat = 128 + r % 64 by omega]
theorem enc_four (r : Nat) (h0 : 65536 ≤ r) (h1 : r ≤ 1114111) : Lib.encodeRune (r : Int) = [UInt8.ofNat (240 + r / 262144), UInt8.ofNat (128 + r / 4096 % 64), UInt8.ofNat (128 + r / 64 % 64), UInt8.ofNat (128 + r % 64)] := by
  unfold Lib.encodeRune
  rw [Lib.encodeRuneZ_four (by omega) (by omega)]
  simp only [List.map_cons, List.map_nil]
  rw [show (240 + (r : Int) / 262144).toNat = 240 + r / 262144 by omega, show (128 + (r : Int) / 4096 % 64).toNat = 128 + r / 4096 % 64 by omega, show (128 + (r : Int) / 64 % 64).toNat = 128 + r / 64 % 64 by omega, show (128 + (r : Int) % 64).toNat = 128 + r % 64 by omega]
theorem u8_of (a : UInt8) (n : Nat) (h : a.toNat = n) : a = UInt8.ofNat n := by
  subst h; simp
theorem len4 : ∀ (l : List UInt8), 3 < l.length → ∃ a b c d t, l = a :: b :: c :: d :: t
  | a :: b :: c :: d :: t, _ => ⟨a, b, c, d, t, rfl⟩
theorem b4 (A B C D r : Nat) (a1 : 240 ≤ A) (a2 : A ≤ 244) (h1 : B < 256) (a4 : B / 64 = 2) (h2 : C < 256) (a6 : C / 64 = 2) (h3 : D < 256) (a8 : D / 64 = 2) (hr : r = A % 8 * 262144 + B % 64 * 4096 + C % 64 * 64 + D % 64) :
    240 + r / 262144 = A ∧ 128 + r / 4096 % 64 = B ∧ 128 + r / 64 % 64 = C ∧ 128 + r % 64 = D := by
  subst hr
  refine ⟨?_, ?_, ?_, ?_⟩ <;> omega
set_option maxRecDepth 100000 in
/-- A rune that was read is encoded as the bytes that it was read of. -/
theorem enc_dec (l : List UInt8) (hl : l ≠ []) (hb : badL l = false) : l.take (Lib.decodeL l).2 = Lib.encodeRune ((Lib.decodeL l).1 : Int) := by
  have hb' : Lib.decodeL l ≠ (65533, 1) := by
    unfold badL at hb
    exact of_decide_eq_false hb
  rw [Lib.decodeL_N] at hb' ⊢
  have h0 := UInt8.toNat_lt (l.getD 0 0)
  have h1 := UInt8.toNat_lt (l.getD 1 0)
  have h2 := UInt8.toNat_lt (l.getD 2 0)
  have h3 := UInt8.toNat_lt (l.getD 3 0)
  by_cases c0 : (l.getD 0 0).toNat < 128
  · rw [decodeN_1 _ _ _ _ _ c0]
    simp only
    rw [enc_ascii _ c0]
    match l, hl with
    | a :: t, _ => simp
  by_cases c2 : C2 l.length (l.getD 0 0).toNat (l.getD 1 0).toNat
  · rw [decodeN_2 _ _ _ _ _ c2]
    obtain ⟨a1, a2, a3, a4⟩ := c2
    simp only
    rw [enc_two _ (by omega) (by omega)]
    match l, a3 with
    | a :: b :: t, _ =>
      simp only [List.getD_cons_zero, List.getD_cons_succ] at *
      rw [← u8_of a _ (by omega), ← u8_of b _ (by omega)]
      rfl
  by_cases c3 : C3 l.length (l.getD 0 0).toNat (l.getD 1 0).toNat (l.getD 2 0).toNat
  · rw [decodeN_3 _ _ _ _ _ c3]
    obtain ⟨a1, a2, a3, a4, a5, a6, a7, a8⟩ := c3
    simp only
    rw [enc_three _ (by omega)]
    match l, a5 with
    | a :: b :: c :: t, _ =>
      clear c2 hb hb' hl
      simp only [List.getD_cons_zero, List.getD_cons_succ] at *
      rw [← u8_of a _ (by omega), ← u8_of b _ (by omega), ← u8_of c _ (by omega)]
      rfl
  by_cases c4 : C4 l.length (l.getD 0 0).toNat (l.getD 1 0).toNat (l.getD 2 0).toNat (l.getD 3 0).toNat
  · rw [decodeN_4 _ _ _ _ _ c4]
    obtain ⟨a1, a2, a3, a4, a5, a6, a7, a8, a9, a10⟩ := c4
    simp only
    rw [enc_four _ (by omega) (by omega)]
    clear c2 c3 hb hb' hl
    obtain ⟨a, b, c, d, t, rfl⟩ := len4 l a7
    have h := b4 a.toNat b.toNat c.toNat d.toNat _ a1 a2 h1 a4 h2 a6 h3 a8 rfl
    show [a, b, c, d] = [UInt8.ofNat (240 + (a.toNat % 8 * 262144 + b.toNat % 64 * 4096 + c.toNat % 64 * 64 + d.toNat % 64) / 262144), UInt8.ofNat (128 + (a.toNat % 8 * 262144 + b.toNat % 64 * 4096 + c.toNat % 64 * 64 + d.toNat % 64) / 4096 % 64), UInt8.ofNat (128 + (a.toNat % 8 * 262144 + b.toNat % 64 * 4096 + c.toNat % 64 * 64 + d.toNat % 64) / 64 % 64), UInt8.ofNat (128 + (a.toNat % 8 * 262144 + b.toNat % 64 * 4096 + c.toNat % 64 * 64 + d.toNat % 64) % 64)]
    rw [h.1, h.2.1, h.2.2.1, h.2.2.2, ← u8_of a _ rfl, ← u8_of b _ rfl, ← u8_of c _ rfl, ← u8_of d _ rfl]
  exact absurd (decodeN_0 _ _ _ _ _ h0 h1 h2 h3 c0 c2 c3 c4) hb'
theorem parse_step (l X : List UInt8) (hl : l ≠ []) : parseL (stepL l ++ X) = (l.take (Lib.decodeL l).2, X) := by
  by_cases hb : badL l = true
  · rw [stepL_bad l hb]
    have hw : (Lib.decodeL l).2 = 1 := by
      unfold badL at hb
      rw [of_decide_eq_true hb]
    rw [hw]
    have h0 := UInt8.toNat_lt (l.getD 0 0)
    unfold parseL
    rw [if_neg (by simp), if_pos (by simp)]
    simp only [List.cons_append, List.nil_append, List.getD_cons_zero, List.getD_cons_succ, List.drop_succ_cons, List.drop_zero]
    rw [hv_dig _ (by omega), hv_dig _ (by omega), show 16 * ((l.getD 0 0).toNat / 16) + (l.getD 0 0).toNat % 16 = (l.getD 0 0).toNat by omega]
    match l, hl with
    | a :: t, _ => simp
  · have hb' : badL l = false := by simpa using hb
    by_cases hq : 33 ≤ (Lib.decodeL l).1 ∧ (Lib.decodeL l).1 ≤ 126 ∧ (Lib.decodeL l).1 ≠ 92
    · rw [stepL_one l hb' hq]
      obtain ⟨h1, h2⟩ := decodeL_ascii l hl (by omega)
      rw [h2, h1]
      unfold parseL
      rw [if_pos]
      · simp
      · simp only [List.cons_append, List.nil_append, List.getD_cons_zero]
        intro h
        have := congrArg UInt8.toNat h
        rw [u8_ofNat _ (by omega)] at this
        exact hq.2.2 this
    · rw [stepL_hex l hb' hq]
      unfold parseL
      rw [if_neg (by simp), if_neg (by simp)]
      have e : ([92, 117, 123] ++ hexL (Lib.decodeL l).1 ++ [125] ++ X).drop 3 = hexL (Lib.decodeL l).1 ++ [125] ++ X := by simp
      rw [e]
      obtain ⟨h1, h2⟩ := upTo_app (hexL (Lib.decodeL l).1) X (hexL_ne _)
      rw [h1, h2, hexV_hexL, enc_dec l hl hb']
theorem stepL_ne (l : List UInt8) (hl : l ≠ []) : stepL l ≠ [] := by
  unfold stepL
  split
  · simp
  · split
    · intro h
      match l, hl with
      | a :: t, _ => simp at h
    · simp
theorem quoteF_inj : ∀ (f g : Nat) (a b : List UInt8), a.length ≤ f → b.length ≤ g → quoteF f a = quoteF g b → a = b
  | f, g, [], [], _, _, _ => rfl
  | f, 0, [], b :: t, _, h, _ => by simp at h
  | f, g + 1, [], b :: t, _, _, h => by
    rw [quoteF_nil, quoteF_step _ _ (by simp)] at h
    have := congrArg List.length h
    rw [List.length_nil, List.length_append] at this
    exact absurd (List.eq_nil_of_length_eq_zero (by omega)) (stepL_ne (b :: t) (by simp))
  | 0, g, a :: s, b, h, _, _ => by simp at h
  | f + 1, g, a :: s, [], _, _, h => by
    rw [quoteF_nil, quoteF_step _ _ (by simp)] at h
    have := congrArg List.length h
    rw [List.length_nil, List.length_append] at this
    exact absurd (List.eq_nil_of_length_eq_zero (by omega)) (stepL_ne (a :: s) (by simp))
  | f + 1, 0, a :: s, b :: t, _, h, _ => by simp at h
  | f + 1, g + 1, a :: s, b :: t, h1, h2, h => by
    rw [quoteF_step _ _ (by simp), quoteF_step _ _ (by simp)] at h
    have hp := congrArg parseL h
    rw [parse_step _ _ (by simp), parse_step _ _ (by simp)] at hp
    injection hp with p1 p2
    have w1 := Lib.decodeL_width (a :: s)
    have w2 := Lib.decodeL_width (b :: t)
    have := quoteF_inj f g _ _ (by rw [List.length_drop]; omega) (by rw [List.length_drop]; omega) p2
    rw [← List.take_append_drop (Lib.decodeL (a :: s)).2 (a :: s), ← List.take_append_drop (Lib.decodeL (b :: t)).2 (b :: t), p1, this]
/-- THE PLAIN LAW OF APART. -/
theorem quoteL_inj (a b : List UInt8) (h : quoteL a = quoteL b) : a = b := quoteF_inj _ _ a b (Nat.le_refl _) (Nat.le_refl _) h
theorem quote_apart (a b : List UInt8) : (a == b) = (quoteL a == quoteL b) := by
  rw [Bool.eq_iff_iff, beq_iff_eq, beq_iff_eq]
  exact ⟨fun h => by rw [h], quoteL_inj a b⟩
end Go.Proofs.YtmiloedhhnknpaaDoor
