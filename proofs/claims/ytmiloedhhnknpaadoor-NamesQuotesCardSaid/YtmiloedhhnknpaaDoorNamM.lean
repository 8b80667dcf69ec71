/- The plain law of Back: what is quoted is unquoted, in plain signs alone. Conditions: as each theorem says. -/
import Derived.Test.YtmiloedhhnknpaaDoorNamL
namespace Go.Proofs.YtmiloedhhnknpaaDoor

theorem dOf_dig (k : Nat) (h : k < 16) : dOf (dig k) = some k := by
  have key : ∀ k : Fin 16, dOf (dig k.val) = some k.val := by decide +kernel
  exact key ⟨k, h⟩
theorem puF_app (M : Nat) : ∀ (A B : List UInt8) (n v : Nat), puF M A n = (v, 0) → puF M (A ++ B) n = puF M B v
  | [], B, n, v, h => by
    have : n = v := by simpa [puF] using h
    subst this; rfl
  | c :: A, B, n, v, h => by
    rw [List.cons_append]
    rw [puF] at h ⊢
    split at h
    · simp at h
    · split at h
      · simp at h
      · split at h
        · simp at h
        · rename_i d hd h1 h2
          rw [if_neg h1, if_neg h2]
          exact puF_app M A B _ v h
theorem puF_dig (M n k : Nat) (hk : k < 16) (h : 16 * n + k ≤ M) : puF M [dig k] n = (16 * n + k, 0) := by
  rw [puF, dOf_dig k hk]
  simp only
  rw [if_neg (by omega), if_neg (by omega)]
  rfl
theorem puF_hexL (M n : Nat) (h : n ≤ M) : puF M (hexL n) 0 = (n, 0) := by
  induction n using Nat.strongRecOn with
  | ind n ih =>
    by_cases h16 : n < 16
    · rw [hexL_lo n h16, puF_dig M 0 n h16 (by omega)]
      simp
    · rw [hexL_hi n (by omega), puF_app M _ _ 0 _ (ih (n / 16) (by omega) (by omega)), puF_dig M (n / 16) (n % 16) (by omega) (by omega)]
      simp only [Prod.mk.injEq, and_true]; omega
theorem hexL_nil (n : Nat) : hexL n ≠ [] := by
  by_cases h : n < 16
  · rw [hexL_lo n h]; simp
  · rw [hexL_hi n (by omega)]; simp
theorem puL_hexL (M n : Nat) (h : n ≤ M) : puL M (hexL n) = (n, 0) := by
  unfold puL
  rw [if_neg (hexL_nil n), puF_hexL M n h]
theorem puL_two (a b : Nat) (ha : a < 16) (hb : b < 16) : puL 255 [dig a, dig b] = (16 * a + b, 0) := by
  unfold puL
  rw [if_neg (by simp)]
  have := puF_app 255 [dig a] [dig b] 0 (16 * 0 + a) (puF_dig 255 0 a ha (by omega))
  rw [show [dig a, dig b] = [dig a] ++ [dig b] from rfl, this, show 16 * 0 + a = a by omega, puF_dig 255 a b hb (by omega)]
theorem index_app : ∀ (A B : List UInt8), (∀ c ∈ A, c ≠ 125) → Lib.indexByte (A ++ 125 :: B) 125 = (A.length : Int)
  | [], B, _ => by simp [Lib.indexByte]
  | c :: A, B, h => by
    have ih := index_app A B (fun c hc => h c (by simp [hc]))
    have hc : (c == 125) = false := by have := h c (by simp); simpa using this
    rw [List.cons_append, Lib.indexByte, ih, hc]
    have : ((A.length : Int) == -1) = false := by rw [beq_eq_false_iff_ne]; omega
    rw [this]
    simp
theorem escP_x (a b : UInt8) (X : List UInt8) (n : Nat) (h : puL 255 [a, b] = (n, 0)) : escP (92 :: 120 :: a :: b :: X) = ([UInt8.ofNat n], 4) := by
  unfold escP
  rw [if_pos ⟨⟨a :: b :: X, rfl⟩, by simp⟩, show ((92 :: 120 :: a :: b :: X).drop 2).take 2 = [a, b] from rfl, h]
  rfl
theorem escP_u (A X : List UInt8) (n : Nat) (hA : ∀ c ∈ A, c ≠ 125) (h : puL 2097151 A = (n, 0)) : escP (92 :: 117 :: 123 :: (A ++ 125 :: X)) = (Lib.encodeRune (n : Int), A.length + 4) := by
  have hi : Lib.indexByte (92 :: 117 :: 123 :: (A ++ 125 :: X)) 125 = ((A.length + 3 : Nat) : Int) := by
    have := index_app (92 :: 117 :: 123 :: A) X (by
      intro c hc
      rcases List.mem_cons.1 hc with rfl | hc
      · decide
      rcases List.mem_cons.1 hc with rfl | hc
      · decide
      rcases List.mem_cons.1 hc with rfl | hc
      · decide
      exact hA c hc)
    exact this
  unfold escP
  rw [if_neg (by rintro ⟨h1, _⟩; simp [List.cons_prefix_cons] at h1), if_pos ⟨A ++ 125 :: X, rfl⟩, hi, if_neg (by omega), Int.toNat_natCast, show A.length + 3 - 3 = A.length by omega]
  rw [show ((92 :: 117 :: 123 :: (A ++ 125 :: X)).drop 3).take A.length = A by show (A ++ 125 :: X).take A.length = A; simp, h]
  rfl
theorem unq_step (f : Nat) (l X acc : List UInt8) (hl : l ≠ []) : unqF escP (f + 1) (stepL l ++ X) acc = unqF escP f X (acc ++ l.take (Lib.decodeL l).2) := by
  by_cases hb : badL l = true
  · rw [stepL_bad l hb]
    have hw : (Lib.decodeL l).2 = 1 := by
      unfold badL at hb
      rw [of_decide_eq_true hb]
    have h0 := UInt8.toNat_lt (l.getD 0 0)
    have he := escP_x _ _ X _ (puL_two ((l.getD 0 0).toNat / 16) ((l.getD 0 0).toNat % 16) (by omega) (by omega))
    rw [show 16 * ((l.getD 0 0).toNat / 16) + (l.getD 0 0).toNat % 16 = (l.getD 0 0).toNat by omega] at he
    simp only [List.cons_append, List.nil_append]
    rw [unqF_on _ _ _ _ (by simp) (by simp) (by rw [he]; simp), he, hw]
    match l, hl with
    | a :: t, _ => simp
  · have hb' : badL l = false := by simpa using hb
    by_cases hq : 33 ≤ (Lib.decodeL l).1 ∧ (Lib.decodeL l).1 ≤ 126 ∧ (Lib.decodeL l).1 ≠ 92
    · rw [stepL_one l hb' hq]
      obtain ⟨h1, h2⟩ := decodeL_ascii l hl (by omega)
      rw [h2, h1]
      simp only [List.cons_append, List.nil_append]
      rw [unqF_one _ _ _ _ (by simp)]
      · simp
      · simp only [List.getD_cons_zero]
        intro h
        have := congrArg UInt8.toNat h
        rw [u8_ofNat _ (by omega)] at this
        exact hq.2.2 this
    · rw [stepL_hex l hb' hq]
      have hmax := decodeL_max l
      have he := escP_u (hexL (Lib.decodeL l).1) X _ (hexL_ne _) (puL_hexL 2097151 (Lib.decodeL l).1 (by omega))
      rw [show [92, 117, 123] ++ hexL (Lib.decodeL l).1 ++ [125] ++ X = 92 :: 117 :: 123 :: (hexL (Lib.decodeL l).1 ++ 125 :: X) by simp]
      rw [unqF_on _ _ _ _ (by simp) (by simp) (by rw [he]; simp), he, enc_dec l hl hb']
      simp only
      rw [show (92 :: 117 :: 123 :: (hexL (Lib.decodeL l).1 ++ 125 :: X)).drop ((hexL (Lib.decodeL l).1).length + 4) = X by
        rw [show (hexL (Lib.decodeL l).1).length + 4 = ((hexL (Lib.decodeL l).1).length + 1) + 3 by omega]
        show (hexL (Lib.decodeL l).1 ++ 125 :: X).drop ((hexL (Lib.decodeL l).1).length + 1) = X
        rw [List.drop_append]; simp]
theorem unq_quote : ∀ (f g : Nat) (l acc : List UInt8), l.length ≤ f → (quoteF f l).length ≤ g → unqF escP g (quoteF f l) acc = some (acc ++ l)
  | f, g, [], acc, _, _ => by rw [quoteF_nil, unqF_nil, List.append_nil]
  | 0, g, a :: t, acc, h, _ => by simp at h
  | f + 1, g, a :: t, acc, h, hg => by
    rw [quoteF_step _ _ (by simp)] at hg ⊢
    have hs : 0 < (stepL (a :: t)).length := List.length_pos_iff.2 (stepL_ne _ (by simp))
    rw [List.length_append] at hg
    obtain ⟨g', rfl⟩ : ∃ g', g = g' + 1 := ⟨g - 1, by omega⟩
    have hw := decodeL_le (a :: t) (by simp)
    rw [unq_step _ _ _ _ (by simp), unq_quote f g' _ _ (by rw [List.length_drop]; omega) (by omega), List.append_assoc, List.take_append_drop]
/-- THE PLAIN LAW OF BACK. -/
theorem unqL_quoteL (t : List UInt8) : unqL (quoteL t) = (t, 0) := by
  unfold unqL
  rw [show quoteL t = quoteF t.length t from rfl, unq_quote t.length _ t [] (Nat.le_refl _) (Nat.le_refl _)]
  show (if quoteL t = quoteL t then (t, 0) else ([], 11)) = (t, 0)
  rw [if_pos rfl]
theorem unqL_cases (s : List UInt8) : ((unqL s).2 = 0 ∧ quoteL (unqL s).1 = s) ∨ unqL s = ([], 11) := by
  unfold unqL
  cases unqF escP s.length s [] with
  | none => exact .inr rfl
  | some t =>
    show ((if quoteL t = s then (t, 0) else ([], 11) : List UInt8 × Nat).2 = 0 ∧ _) ∨ _
    by_cases h : quoteL t = s
    · left
      simp [endU, h]
    · right
      simp [endU, h]
theorem quoteF_len : ∀ (f : Nat) (l : List UInt8), (quoteF f l).length ≤ 10 * f
  | 0, l => by simp [quoteF]
  | f + 1, l => by
    by_cases h : l = []
    · subst h; rw [quoteF_nil]; simp
    · rw [quoteF_step _ _ h, List.length_append]
      have := stepL_len l
      have := quoteF_len f (l.drop (Lib.decodeL l).2)
      omega
theorem quoteL_len (l : List UInt8) : (quoteL l).length ≤ 10 * l.length := quoteF_len _ _
theorem decodeL_4 (l : List UInt8) : (Lib.decodeL l).2 ≤ 4 := by
  rw [Lib.decodeL_N]
  unfold Lib.decodeN
  repeat' split
  all_goals simp
theorem stepL_ge (l : List UInt8) (hl : l ≠ []) : (Lib.decodeL l).2 ≤ (stepL l).length := by
  by_cases hb : badL l = true
  · rw [stepL_bad l hb]
    have := decodeL_4 l
    simpa using this
  · have hb' : badL l = false := by simpa using hb
    by_cases hq : 33 ≤ (Lib.decodeL l).1 ∧ (Lib.decodeL l).1 ≤ 126 ∧ (Lib.decodeL l).1 ≠ 92
    · rw [stepL_one l hb' hq, (decodeL_ascii l hl (by omega)).2]
      match l, hl with
      | a :: t, _ => simp
    · rw [stepL_hex l hb' hq]
      have := decodeL_4 l
      simp; omega
theorem quoteF_ge : ∀ (f : Nat) (l : List UInt8), l.length ≤ f → l.length ≤ (quoteF f l).length
  | f, [], _ => by simp
  | 0, a :: t, h => by simp at h
  | f + 1, a :: t, h => by
    rw [quoteF_step _ _ (by simp), List.length_append]
    have hw := decodeL_le (a :: t) (by simp)
    have h1 := stepL_ge (a :: t) (by simp)
    have h2 := quoteF_ge f ((a :: t).drop (Lib.decodeL (a :: t)).2) (by rw [List.length_drop]; omega)
    rw [List.length_drop] at h2
    omega
theorem quoteL_ge (l : List UInt8) : l.length ≤ (quoteL l).length := quoteF_ge _ _ (Nat.le_refl _)
/-! Plain signs alone. -/
def plainC (c : UInt8) : Prop := 33 ≤ c.toNat ∧ c.toNat ≤ 126
theorem dig_plain (k : Nat) (h : k < 16) : plainC (dig k) := by
  have key : ∀ k : Fin 16, 33 ≤ (dig k.val).toNat ∧ (dig k.val).toNat ≤ 126 := by decide +kernel
  exact key ⟨k, h⟩
theorem hexL_plain (n : Nat) : ∀ c ∈ hexL n, plainC c := by
  induction n using Nat.strongRecOn with
  | ind n ih =>
    by_cases h : n < 16
    · rw [hexL_lo n h]
      intro c hc
      simp at hc
      subst hc
      exact dig_plain n h
    · rw [hexL_hi n (by omega)]
      intro c hc
      rcases List.mem_append.1 hc with h1 | h1
      · exact ih (n / 16) (by omega) c h1
      · simp at h1
        subst h1
        exact dig_plain _ (by omega)
theorem stepL_plain (l : List UInt8) (hl : l ≠ []) : ∀ c ∈ stepL l, plainC c := by
  by_cases hb : badL l = true
  · rw [stepL_bad l hb]
    have h0 := UInt8.toNat_lt (l.getD 0 0)
    intro c hc
    simp only [List.mem_cons, List.not_mem_nil, or_false] at hc
    rcases hc with rfl | rfl | rfl | rfl
    · exact ⟨by decide, by decide⟩
    · exact ⟨by decide, by decide⟩
    · exact dig_plain _ (by omega)
    · exact dig_plain _ (by omega)
  · have hb' : badL l = false := by simpa using hb
    by_cases hq : 33 ≤ (Lib.decodeL l).1 ∧ (Lib.decodeL l).1 ≤ 126 ∧ (Lib.decodeL l).1 ≠ 92
    · rw [stepL_one l hb' hq, (decodeL_ascii l hl (by omega)).1]
      intro c hc
      simp at hc
      subst hc
      unfold plainC
      rw [u8_ofNat _ (by omega)]
      omega
    · rw [stepL_hex l hb' hq]
      intro c hc
      rw [List.mem_append, List.mem_append] at hc
      rcases hc with (hc | hc) | hc
      · simp only [List.mem_cons, List.not_mem_nil, or_false] at hc
        rcases hc with rfl | rfl | rfl
        · exact ⟨by decide, by decide⟩
        · exact ⟨by decide, by decide⟩
        · exact ⟨by decide, by decide⟩
      · exact hexL_plain _ c hc
      · simp at hc
        subst hc
        exact ⟨by decide, by decide⟩
theorem quoteF_plain : ∀ (f : Nat) (l : List UInt8), ∀ c ∈ quoteF f l, plainC c
  | 0, l, c, h => by simp [quoteF] at h
  | f + 1, l, c, h => by
    by_cases hl : l = []
    · subst hl; rw [quoteF_nil] at h; simp at h
    · rw [quoteF_step _ _ hl, List.mem_append] at h
      rcases h with h | h
      · exact stepL_plain l hl c h
      · exact quoteF_plain f _ c h
theorem quoteL_plain (l : List UInt8) : ∀ c ∈ quoteL l, plainC c := quoteF_plain _ _
end Go.Proofs.YtmiloedhhnknpaaDoor
