/- The reference's Unquote, and NamesQuotes. Conditions: as each theorem says (the table and strconv's variables as they were laid). -/
import Derived.Test.YtmiloedhhnknpaaDoorNamOO
import Derived.Test.YtmiloedhhnknpaaDoorNamS
namespace Go.Proofs.YtmiloedhhnknpaaDoor
open Go.RowKit

theorem oneP_plain (l : List UInt8) (h : l.getD 0 0 ≠ 92) : oneP l = (l.take 1, 1) := by unfold oneP; rw [if_pos h]
theorem unqR_no (f : Nat) (l acc : List UInt8) (hl : l ≠ []) (h : (oneP l).2 = 0) : unqF oneP (f + 1) l acc = none := by
  by_cases h1 : l.getD 0 0 ≠ 92
  · rw [oneP_plain l h1] at h; simp at h
  · exact unqF_no _ _ _ _ hl h1 h
theorem unqR_on (f : Nat) (l acc : List UInt8) (hl : l ≠ []) (h : ¬ (oneP l).2 = 0) : unqF oneP (f + 1) l acc = unqF oneP f (l.drop (oneP l).2) (acc ++ (oneP l).1) := by
  by_cases h1 : l.getD 0 0 ≠ 92
  · rw [oneP_plain l h1, unqF_one _ _ _ _ hl h1]
  · exact unqF_on _ _ _ _ hl h1 h
theorem digF_rng (l : List UInt8) : ∀ (f i n : Nat), i ≤ (digF l f i n).2
  | 0, i, n => Nat.le_refl _
  | f + 1, i, n => by
    rw [digF]
    split
    · have := digF_rng l f (i + 1) (16 * n + (vOf (l.getD i 0)).toNat)
      omega
    · exact Nat.le_refl _
theorem bytS_len (n : Nat) : (bytS n).length ≤ 4 := by
  unfold bytS bytL
  split
  · simp
  · split
    · simp
    · split <;> simp
theorem oneP_le (l : List UInt8) (hl : l ≠ []) : (oneP l).2 ≤ l.length ∧ (oneP l).1.length ≤ (oneP l).2 := by
  have h0 : 0 < l.length := List.length_pos_iff.2 hl
  unfold oneP
  split
  · simp; omega
  · split
    · rename_i h
      exact ⟨h.1, by simp⟩
    · split
      · simp
      · split
        · simp
        · rename_i h
          have := digF_rng l 7 3 0
          have := bytS_len (digF l 7 3 0).1
          simp only
          omega
def refU (l : List UInt8) : List UInt8 × Nat := endU l (unqF oneP l.length l [])
/-! What both read of a quoted text is the same. -/
theorem vOf_dig (k : Nat) (h : k < 16) : vOf (dig k) = (k : Int) := by
  have key : ∀ k : Fin 16, vOf (dig k.val) = (k.val : Int) := by decide +kernel
  exact key ⟨k, h⟩
theorem dec_valid (l : List UInt8) (hl : l ≠ []) (hb : badL l = false) : (Lib.decodeL l).1 < 55296 ∨ 57343 < (Lib.decodeL l).1 := by
  have hb' : Lib.decodeL l ≠ (65533, 1) := by
    unfold badL at hb
    exact of_decide_eq_false hb
  rw [Lib.decodeL_N] at hb' ⊢
  have h0 := UInt8.toNat_lt (l.getD 0 0)
  have h1 := UInt8.toNat_lt (l.getD 1 0)
  have h2 := UInt8.toNat_lt (l.getD 2 0)
  have h3 := UInt8.toNat_lt (l.getD 3 0)
  by_cases c0 : (l.getD 0 0).toNat < 128
  · rw [decodeN_1 _ _ _ _ _ c0]; simp only; omega
  by_cases c2 : C2 l.length (l.getD 0 0).toNat (l.getD 1 0).toNat
  · rw [decodeN_2 _ _ _ _ _ c2]
    obtain ⟨a1, a2, a3, a4⟩ := c2
    simp only; omega
  by_cases c3 : C3 l.length (l.getD 0 0).toNat (l.getD 1 0).toNat (l.getD 2 0).toNat
  · rw [decodeN_3 _ _ _ _ _ c3]
    obtain ⟨a1, a2, a3, a4, a5, a6, a7, a8⟩ := c3
    simp only; omega
  by_cases c4 : C4 l.length (l.getD 0 0).toNat (l.getD 1 0).toNat (l.getD 2 0).toNat (l.getD 3 0).toNat
  · rw [decodeN_4 _ _ _ _ _ c4]
    obtain ⟨a1, a2, a3, a4, a5, a6, a7, a8, a9, a10⟩ := c4
    simp only; omega
  exact absurd (decodeN_0 _ _ _ _ _ h0 h1 h2 h3 c0 c2 c3 c4) hb'
theorem bytS_enc (n : Nat) (hn : n ≤ 1114111) (h : n < 55296 ∨ 57343 < n) : bytS n = Lib.encodeRune (n : Int) := by
  unfold bytS bytL
  by_cases h1 : n < 128
  · rw [if_pos h1, enc_ascii n h1]; rfl
  rw [if_neg h1]
  by_cases h2 : n < 2048
  · rw [if_pos h2, enc_two n (by omega) (by omega)]; rfl
  rw [if_neg h2]
  by_cases h3 : n < 65536
  · rw [if_pos h3, enc_three n (by omega)]; rfl
  · rw [if_neg h3, enc_four n (by omega) (by omega)]; rfl
/-- The digits of a number that stand from place 3 on, and behind them a brace. -/
theorem digF_read : ∀ (A : List Nat) (P X : List UInt8) (f n : Nat), (∀ k ∈ A, k < 16) → P.length + A.length < 10 → A.length ≤ f →
    digF (P ++ A.map dig ++ 125 :: X) f P.length n = (A.foldl (fun n k => 16 * n + k) n, P.length + A.length)
  | [], P, X, f, n, _, _, _ => by
    rw [digF_end]
    · rfl
    · rintro ⟨_, _, h⟩
      have : (P ++ ([] : List Nat).map dig ++ 125 :: X).getD P.length 0 = 125 := by simp [List.getD]
      rw [this] at h
      revert h; decide
  | k :: A, P, X, 0, n, _, _, h => by simp at h
  | k :: A, P, X, f + 1, n, hk, hl, h => by
    have hk0 := hk k (by simp)
    have hg : (P ++ (k :: A).map dig ++ 125 :: X).getD P.length 0 = dig k := by simp [List.getD]
    rw [digF_on _ _ _ _ ⟨by simp, by simp at hl; omega, by rw [hg, vOf_dig k hk0]; omega⟩, hg, vOf_dig k hk0]
    have ih := digF_read A (P ++ [dig k]) X f (16 * n + k) (fun k h => hk k (by simp [h])) (by simp at hl ⊢; omega) (by simpa using h)
    have e : P ++ (k :: A).map dig ++ 125 :: X = P ++ [dig k] ++ A.map dig ++ 125 :: X := by simp
    rw [e, Int.toNat_natCast]
    rw [List.length_append, List.length_singleton] at ih
    rw [ih]
    simp; omega
theorem hexL_nats (n : Nat) : ∃ A : List Nat, hexL n = A.map dig ∧ (∀ k ∈ A, k < 16) ∧ A.foldl (fun n k => 16 * n + k) 0 = n := by
  induction n using Nat.strongRecOn with
  | ind n ih =>
    by_cases h : n < 16
    · exact ⟨[n], by rw [hexL_lo n h]; rfl, by simpa using h, by simp⟩
    · obtain ⟨A, h1, h2, h3⟩ := ih (n / 16) (by omega)
      refine ⟨A ++ [n % 16], by rw [hexL_hi n (by omega), h1]; simp, ?_, ?_⟩
      · intro k hk
        rcases List.mem_append.1 hk with hk | hk
        · exact h2 k hk
        · simp at hk; omega
      · rw [List.foldl_append, h3]
        show 16 * (n / 16) + n % 16 = n
        omega
theorem oneP_hex (n : Nat) (X : List UInt8) (hn : n ≤ 1114111) (hv : n < 55296 ∨ 57343 < n) : oneP (92 :: 117 :: 123 :: (hexL n ++ 125 :: X)) = (Lib.encodeRune (n : Int), (hexL n).length + 4) := by
  have hl := hexL_len n 6 (by omega) (by omega)
  have hp : 0 < (hexL n).length := List.length_pos_iff.2 (hexL_nil n)
  obtain ⟨A, h1, h2, h3⟩ := hexL_nats n
  have hAl : A.length = (hexL n).length := by rw [h1]; simp
  have hd : digF (92 :: 117 :: 123 :: (hexL n ++ 125 :: X)) 7 3 0 = (n, 3 + (hexL n).length) := by
    have := digF_read A [92, 117, 123] X 7 0 h2 (by simp; omega) (by omega)
    rw [h3, ← h1, hAl] at this
    exact this
  unfold oneP
  rw [hd, if_neg (by simp), if_neg (by rintro ⟨_, h, _⟩; simp at h), if_neg (by simp; omega), if_neg]
  · rw [bytS_enc n hn hv, show 3 + (hexL n).length + 1 = (hexL n).length + 4 by omega]
  · simp only
    rintro (h | h | h)
    · simp at h; omega
    · apply h
      rw [show 3 + (hexL n).length = (hexL n).length + 1 + 1 + 1 by omega]
      simp [List.getD]
    · omega
theorem oneP_bad (a b : Nat) (X : List UInt8) (ha : a < 16) (hb : b < 16) : oneP (92 :: 120 :: dig a :: dig b :: X) = ([UInt8.ofNat (16 * a + b)], 4) := by
  unfold oneP
  rw [if_neg (by simp), if_pos]
  · simp only [List.getD_cons_succ, List.getD_cons_zero]
    rw [vOf_dig a ha, vOf_dig b hb, show ((16 : Int) * (a : Int) + (b : Int)).toNat = 16 * a + b by omega]
  · simp only [List.getD_cons_succ, List.getD_cons_zero]
    rw [vOf_dig a ha, vOf_dig b hb]
    refine ⟨by simp, ?_, by omega, by omega⟩
    trivial
theorem unqR_step (f : Nat) (l X acc : List UInt8) (hl : l ≠ []) : unqF oneP (f + 1) (stepL l ++ X) acc = unqF oneP f X (acc ++ l.take (Lib.decodeL l).2) := by
  by_cases hb : badL l = true
  · rw [stepL_bad l hb]
    have hw : (Lib.decodeL l).2 = 1 := by
      unfold badL at hb
      rw [of_decide_eq_true hb]
    have h0 := UInt8.toNat_lt (l.getD 0 0)
    have he := oneP_bad ((l.getD 0 0).toNat / 16) ((l.getD 0 0).toNat % 16) X (by omega) (by omega)
    rw [show 16 * ((l.getD 0 0).toNat / 16) + (l.getD 0 0).toNat % 16 = (l.getD 0 0).toNat by omega] at he
    simp only [List.cons_append, List.nil_append]
    rw [unqF_on _ _ _ _ (by simp) (by simp) (by rw [he]; simp), he, hw]
    match l, hl with
    | a :: t, _ => simp
  · have hb' : badL l = false := by simpa using hb
    by_cases hq : 33 ≤ (Lib.decodeL l).1 ∧ (Lib.decodeL l).1 ≤ 126 ∧ (Lib.decodeL l).1 ≠ 92
    · rw [stepL_one l hb' hq]
      obtain ⟨h1, h2⟩ := decodeL_ascii l hl (by omega)
      rw [h2, h1]
      simp only [List.cons_append, List.nil_append]
      rw [unqF_one _ _ _ _ (by simp)]
      · simp
      · simp only [List.getD_cons_zero]
        intro h
        have := congrArg UInt8.toNat h
        rw [u8_ofNat _ (by omega)] at this
        exact hq.2.2 this
    · rw [stepL_hex l hb' hq]
      have hmax := decodeL_max l
      have he := oneP_hex (Lib.decodeL l).1 X hmax (dec_valid l hl hb')
      rw [show [92, 117, 123] ++ hexL (Lib.decodeL l).1 ++ [125] ++ X = 92 :: 117 :: 123 :: (hexL (Lib.decodeL l).1 ++ 125 :: X) by simp]
      rw [unqF_on _ _ _ _ (by simp) (by simp) (by rw [he]; simp), he, enc_dec l hl hb']
      simp only
      rw [show (92 :: 117 :: 123 :: (hexL (Lib.decodeL l).1 ++ 125 :: X)).drop ((hexL (Lib.decodeL l).1).length + 4) = X by
        rw [show (hexL (Lib.decodeL l).1).length + 4 = ((hexL (Lib.decodeL l).1).length + 1) + 3 by omega]
        show (hexL (Lib.decodeL l).1 ++ 125 :: X).drop ((hexL (Lib.decodeL l).1).length + 1) = X
        rw [List.drop_append]; simp]
theorem unqR_quote : ∀ (f g : Nat) (l acc : List UInt8), l.length ≤ f → (quoteF f l).length ≤ g → unqF oneP g (quoteF f l) acc = some (acc ++ l)
  | f, g, [], acc, _, _ => by rw [quoteF_nil, unqF_nil, List.append_nil]
  | 0, g, a :: t, acc, h, _ => by simp at h
  | f + 1, g, a :: t, acc, h, hg => by
    rw [quoteF_step _ _ (by simp)] at hg ⊢
    have hs : 0 < (stepL (a :: t)).length := List.length_pos_iff.2 (stepL_ne _ (by simp))
    rw [List.length_append] at hg
    obtain ⟨g', rfl⟩ : ∃ g', g = g' + 1 := ⟨g - 1, by omega⟩
    have hw := decodeL_le (a :: t) (by simp)
    rw [unqR_step _ _ _ _ (by simp), unqR_quote f g' _ _ (by rw [List.length_drop]; omega) (by omega), List.append_assoc, List.take_append_drop]
theorem endU_not (s : List UInt8) (o : Option (List UInt8)) (h : ∀ t, quoteL t ≠ s) : endU s o = ([], 11) := by
  cases o with
  | none => rfl
  | some t =>
    show (if quoteL t = s then (t, 0) else ([], 11)) = _
    rw [if_neg (h t)]
/-- Both answer the same. -/
theorem refU_eq (s : List UInt8) : refU s = unqL s := by
  by_cases h : ∃ t, quoteL t = s
  · obtain ⟨t, rfl⟩ := h
    rw [unqL_quoteL]
    unfold refU
    rw [show quoteL t = quoteF t.length t from rfl, unqR_quote t.length _ t [] (Nat.le_refl _) (Nat.le_refl _)]
    show (if quoteL t = quoteL t then (t, 0) else ([], 11)) = (t, 0)
    rw [if_pos rfl]
  · have h' : ∀ t, quoteL t ≠ s := fun t ht => h ⟨t, ht⟩
    unfold refU unqL
    rw [endU_not s _ h', endU_not s _ h']

set_option maxRecDepth 1000000 in
set_option maxHeartbeats 2000000 in
theorem refUnquote_any (s : ByteArray) (w : World) (hs : s.size ≤ 1000000) :
    Calls Tryd.prog 21 #[.string s] w fun e w' => UnqSaid (unqL s.data.toList) w e w' := by
  rw [← refU_eq]
  have HR : Hid (refU s.data.toList = endU s.data.toList (unqF oneP s.size (s.data.toList.drop 0) [])) := by show _ = _; unfold refU; rw [Lib.size_eq]; rfl
  have HQ := Lib.hid (fun t X hl => refQuote_any t X hl)
  generalize refU s.data.toList = R at *
  go_enter Tryd.func21, Tryd.ntmps21
  go_wp2_with (fail)
  go_loopw [4, 5] (fun v4 v5 wr => ∃ (o : ByteArray) (i f : Nat), v4 = .string o ∧ v5 = .int .i64 (i : Int) ∧ Below w.heap.size w wr ∧ i ≤ s.size ∧ s.size ≤ f + i ∧ o.size ≤ i ∧ Hid (R = endU s.data.toList (unqF oneP f (s.data.toList.drop i) o.data.toList))) (fun _ v5 _ => s.size - (intOf v5).toNat)
  case atStart => exact ⟨⟨#[]⟩, 0, s.size, rfl, rfl, Below.refl _ _, by omega, by omega, by show 0 ≤ 0; omega, HR⟩
  case round =>
    obtain ⟨o, i, f, rfl, rfl, hbw, his, hf, hoi, hR⟩ := hrel
    by_cases hp : i < s.size
    · have hp' : (i : Int) < (s.size : Int) := by omega
      have hes : (s.extract i s.size).size = s.size - i := by rw [Lib.size_eq, extract_drop, List.length_drop, ← Lib.size_eq]
      have HO := Lib.hid (fun X => one_any (s.extract i s.size) X (by rw [hes]; omega) (by rw [hes]; omega))
      rw [extract_drop] at HO
      unfold OneSaid at HO
      obtain ⟨q1, q2⟩ := oneP_le _ (drop_ne s i hp)
      rw [List.length_drop, ← Lib.size_eq] at q1
      obtain ⟨f', rfl⟩ : ∃ f', f = f' + 1 := ⟨f - 1, by omega⟩
      have Hno := Lib.hid (unqR_no f' (s.data.toList.drop i) o.data.toList (drop_ne s i hp))
      have Hon := Lib.hid (unqR_on f' (s.data.toList.drop i) o.data.toList (drop_ne s i hp))
      generalize oneP (s.data.toList.drop i) = p at *
      obtain ⟨t, n⟩ := p
      simp only at q1 q2 Hno Hon HO
      clear hes
      by_cases hn : n = 0
      · as_aux_lemma =>
        have HF : Hid (R = ([], 11)) := by show _ = _; rw [hR.out, Hno.out hn]; rfl
        have hn0 : ((n : Int) == 0) = true := by rw [beq_iff_eq]; omega
        clear hn
        go_wp2_with (fail)
        refine (HO.out _).mono ?_
        rintro e w1 ⟨rfl, hb1⟩
        go_wp2
        go_ret2
        exact ⟨by rw [HF.out]; rfl, hbw.trans (hb1.mono hbw.size)⟩
      · as_aux_lemma =>
        have HF : Hid (R = endU s.data.toList (unqF oneP f' (s.data.toList.drop (i + n)) (o.data.toList ++ t))) := by show _ = _; rw [hR.out, Hon.out hn, List.drop_drop]
        have hn0 : ((n : Int) == 0) = false := by rw [beq_eq_false_iff_ne]; omega
        have hn1 : 0 < n := by omega
        have hts : (bs t).size ≤ 1000000 := by rw [bs_size]; omega
        have HOa : Hid ((o ++ bs t).data.toList = o.data.toList ++ t) := by show _ = _; rw [toList_app, bs_data]
        have HOs : Hid ((o ++ bs t).size ≤ i + n) := by show _ ≤ _; rw [app_size, bs_size]; omega
        clear hn
        go_wp2_with (fail)
        refine (HO.out _).mono ?_
        rintro e w1 ⟨rfl, hb1⟩
        go_wp2
        go_roundw
        case rel => exact ⟨o ++ bs t, i + n, f', rfl, by go_num, hbw.trans (hb1.mono hbw.size), by omega, by omega, HOs.out, by show _ = _; rw [HF.out, HOa.out]⟩
        case measure => simp [intOf]; omega
    · have HF : Hid (R = if quoteL o.data.toList = s.data.toList then (o.data.toList, 0) else ([], 11)) := by
        show _ = _
        rw [hR.out, drop_end s i hp]
        exact unq_end _ _ _ (unqF_nil _ _ _)
      have HQ2 := Lib.hid (fun X => HQ.out o X (by omega))
      have hcmp : ((bs (quoteL o.data.toList)).toList == s.toList) = decide (quoteL o.data.toList = s.data.toList) := by
        rw [bs_toList, ByteArray.toList_eq]
        by_cases h : quoteL o.data.toList = s.data.toList
        · simp [h]
        · simp [h]
      have hdi : decide ((i : Int) < (s.size : Int)) = false := decide_eq_false (by omega)
      have hbo : bs o.data.toList = o := bs_of o
      have Hbo := Lib.hid hbo
      clear hbo
      by_cases hqq : quoteL o.data.toList = s.data.toList
      · as_aux_lemma =>
        rw [if_pos hqq] at HF
        rw [decide_eq_true hqq] at hcmp
        clear hqq
        go_wp2_with (fail)
        refine (HQ2.out _).mono ?_
        rintro e w1 ⟨rfl, hb1⟩
        go_wp2
        go_ret2
        exact ⟨by rw [HF.out]; simp only; rw [Hbo.out]; rfl, hbw.trans (hb1.mono hbw.size)⟩
      · as_aux_lemma =>
        rw [if_neg hqq] at HF
        rw [decide_eq_false hqq] at hcmp
        clear hqq
        go_wp2_with (fail)
        refine (HQ2.out _).mono ?_
        rintro e w1 ⟨rfl, hb1⟩
        go_wp2
        go_ret2
        exact ⟨by rw [HF.out]; rfl, hbw.trans (hb1.mono hbw.size)⟩

set_option maxRecDepth 1000000 in
set_option maxHeartbeats 2000000 in
theorem namesQuotes_walk (W : World) (hd : LaidAt W) (s : ByteArray) :
    Calls Tryd.prog 8 #[.string s] W fun e w' => e = .returned (.bool true) ∧ Below W.heap.size W w' := by
  have HA := Lib.hid awake_at
  unfold awakeAt at HA
  have Hd := Lib.hid hd
  clear hd
  by_cases h1 : 500 < s.size
  · as_aux_lemma =>
    have d1 : decide (500 < (s.size : Int)) = true := decide_eq_true (by omega)
    go_enter Tryd.func8, Tryd.ntmps8
    go_wp2_with (fail)
    refine (HA.out _ Hd.out.1).mono ?_
    rintro e w1 ⟨rfl, b1⟩
    go_wp2
    go_ret
    exact ⟨rfl, b1⟩
  · as_aux_lemma =>
    have d1 : decide (500 < (s.size : Int)) = false := decide_eq_false (by omega)
    have HU := Lib.hid (fun X hX hE => unquote_any s X (by omega) hX hE)
    have HV := Lib.hid (fun X => refUnquote_any s X (by omega))
    have HQ := Lib.hid (fun X hX => quote_any s X (by omega) hX)
    have HQ2 := Lib.hid (fun X => refQuote_any s X (by omega))
    unfold UnqSaid at HU HV
    generalize unqL s.data.toList = U at *
    obtain ⟨u, k⟩ := U
    simp only at HU HV
    go_enter Tryd.func8, Tryd.ntmps8
    go_wp2_with (fail)
    refine (HU.out _ Hd.out.1 Hd.out.2).mono ?_
    rintro e w1 ⟨rfl, b1⟩
    go_wp2_with (fail)
    refine (HV.out _).mono ?_
    rintro e w2 ⟨rfl, b2⟩
    have b2 := b1.trans (b2.mono b1.size)
    go_wp2_with (fail)
    refine (HQ.out _ (Hd.out.below b2).1).mono ?_
    rintro e w3 ⟨rfl, b3⟩
    have b3 := b2.trans (b3.mono b2.size)
    go_wp2_with (fail)
    refine (HQ2.out _).mono ?_
    rintro e w4 ⟨rfl, b4⟩
    have b4 := b3.trans (b4.mono b3.size)
    go_wp2_with (fail)
    refine (HA.out _ (Hd.out.below b4).1).mono ?_
    rintro e w5 ⟨rfl, b5⟩
    have b5 := b4.trans (b5.mono b4.size)
    go_wp2
    go_ret
    exact ⟨rfl, b5⟩
end Go.Proofs.YtmiloedhhnknpaaDoor
