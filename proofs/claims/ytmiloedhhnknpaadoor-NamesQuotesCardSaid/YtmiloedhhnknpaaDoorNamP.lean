/- The plain law of names: how the reference's First answers what the model's decoder says; runes counted; no program in sight. Conditions: as each theorem says. -/
import Derived.Test.YtmiloedhhnknpaaDoorKit
import Derived.Lib.TrimUEq
import Derived.Lib.RuneBytes
namespace Go.Proofs.YtmiloedhhnknpaaDoor

/-- No rune begins here. -/
def badL (l : List UInt8) : Bool := decide (Lib.decodeL l = (65533, 1))
/-- The first rune and how many bytes it has; (0, 0): there is none. -/
def firstL (l : List UInt8) : Nat × Nat := if l = [] then (0, 0) else if badL l = true then (0, 0) else Lib.decodeL l
def tailN (n k b : Nat) : Bool := decide (k < n ∧ 128 ≤ b ∧ b ≤ 191)
/-- What the reference's First reckons. -/
def firstN (n b0 b1 b2 b3 : Nat) : Nat × Nat :=
  if n = 0 then (0, 0)
  else if b0 < 128 then (b0, 1)
  else if 194 ≤ b0 ∧ b0 ≤ 223 then (if tailN n 1 b1 = true then (b0 % 32 * 64 + b1 % 64, 2) else (0, 0))
  else if 224 ≤ b0 ∧ b0 ≤ 239 then (if tailN n 1 b1 = true ∧ tailN n 2 b2 = true ∧ 2048 ≤ b0 % 16 * 4096 + b1 % 64 * 64 + b2 % 64 ∧ (b0 % 16 * 4096 + b1 % 64 * 64 + b2 % 64 < 55296 ∨ 57343 < b0 % 16 * 4096 + b1 % 64 * 64 + b2 % 64) then (b0 % 16 * 4096 + b1 % 64 * 64 + b2 % 64, 3) else (0, 0))
  else if 240 ≤ b0 ∧ b0 ≤ 244 then (if tailN n 1 b1 = true ∧ tailN n 2 b2 = true ∧ tailN n 3 b3 = true ∧ 65536 ≤ b0 % 8 * 262144 + b1 % 64 * 4096 + b2 % 64 * 64 + b3 % 64 ∧ b0 % 8 * 262144 + b1 % 64 * 4096 + b2 % 64 * 64 + b3 % 64 ≤ 1114111 then (b0 % 8 * 262144 + b1 % 64 * 4096 + b2 % 64 * 64 + b3 % 64, 4) else (0, 0))
  else (0, 0)

theorem tailN_eq (n k b : Nat) (hb : b < 256) : (tailN n k b = true) = (k < n ∧ b / 64 = 2) := by
  unfold tailN
  rw [decide_eq_true_eq]
  exact propext ⟨fun h => ⟨h.1, by omega⟩, fun h => ⟨h.1, by omega, by omega⟩⟩
def C2 (n b0 b1 : Nat) : Prop := 194 ≤ b0 ∧ b0 ≤ 223 ∧ 1 < n ∧ b1 / 64 = 2
def C3 (n b0 b1 b2 : Nat) : Prop := 224 ≤ b0 ∧ b0 ≤ 239 ∧ 1 < n ∧ b1 / 64 = 2 ∧ 2 < n ∧ b2 / 64 = 2 ∧ 2048 ≤ b0 % 16 * 4096 + b1 % 64 * 64 + b2 % 64 ∧ (b0 % 16 * 4096 + b1 % 64 * 64 + b2 % 64 < 55296 ∨ 57343 < b0 % 16 * 4096 + b1 % 64 * 64 + b2 % 64)
def C4 (n b0 b1 b2 b3 : Nat) : Prop := 240 ≤ b0 ∧ b0 ≤ 244 ∧ 1 < n ∧ b1 / 64 = 2 ∧ 2 < n ∧ b2 / 64 = 2 ∧ 3 < n ∧ b3 / 64 = 2 ∧ 65536 ≤ b0 % 8 * 262144 + b1 % 64 * 4096 + b2 % 64 * 64 + b3 % 64 ∧ b0 % 8 * 262144 + b1 % 64 * 4096 + b2 % 64 * 64 + b3 % 64 ≤ 1114111
theorem decodeN_1 (n b0 b1 b2 b3 : Nat) (h : b0 < 128) : Lib.decodeN n b0 b1 b2 b3 = (b0, 1) := by unfold Lib.decodeN; rw [if_pos h]
theorem decodeN_2 (n b0 b1 b2 b3 : Nat) (h : C2 n b0 b1) : Lib.decodeN n b0 b1 b2 b3 = (b0 % 32 * 64 + b1 % 64, 2) := by
  obtain ⟨h1, h2, h3, h4⟩ := h
  unfold Lib.decodeN
  rw [if_neg (by omega), if_pos (⟨by omega, h3, h4⟩ : b0 / 32 = 6 ∧ (1 < n ∧ b1 / 64 = 2)), if_pos (by omega)]
theorem decodeN_3 (n b0 b1 b2 b3 : Nat) (h : C3 n b0 b1 b2) : Lib.decodeN n b0 b1 b2 b3 = (b0 % 16 * 4096 + b1 % 64 * 64 + b2 % 64, 3) := by
  obtain ⟨h1, h2, h3, h4, h5, h6, h7, h8⟩ := h
  unfold Lib.decodeN
  rw [if_neg (by omega), if_neg (by omega), if_pos (⟨by omega, ⟨h3, h4⟩, ⟨h5, h6⟩⟩ : b0 / 16 = 14 ∧ (1 < n ∧ b1 / 64 = 2) ∧ (2 < n ∧ b2 / 64 = 2)), if_pos (by omega)]
theorem decodeN_4 (n b0 b1 b2 b3 : Nat) (h : C4 n b0 b1 b2 b3) : Lib.decodeN n b0 b1 b2 b3 = (b0 % 8 * 262144 + b1 % 64 * 4096 + b2 % 64 * 64 + b3 % 64, 4) := by
  obtain ⟨h1, h2, h3, h4, h5, h6, h7, h8, h9, h10⟩ := h
  unfold Lib.decodeN
  rw [if_neg (by omega), if_neg (by omega), if_neg (by omega), if_pos (⟨by omega, ⟨h3, h4⟩, ⟨h5, h6⟩, ⟨h7, h8⟩⟩ : b0 / 8 = 30 ∧ (1 < n ∧ b1 / 64 = 2) ∧ (2 < n ∧ b2 / 64 = 2) ∧ (3 < n ∧ b3 / 64 = 2)), if_pos (by omega)]
theorem decodeN_0 (n b0 b1 b2 b3 : Nat) (h0 : b0 < 256) (h1 : b1 < 256) (h2 : b2 < 256) (h3 : b3 < 256) (c0 : ¬ b0 < 128) (c2 : ¬ C2 n b0 b1) (c3 : ¬ C3 n b0 b1 b2) (c4 : ¬ C4 n b0 b1 b2 b3) : Lib.decodeN n b0 b1 b2 b3 = (65533, 1) := by
  unfold C2 at c2
  unfold C3 at c3
  unfold C4 at c4
  unfold Lib.decodeN
  rw [if_neg c0]
  split
  · rw [if_neg (by omega)]
  · split
    · rw [if_neg (by omega)]
    · split
      · rw [if_neg (by omega)]
      · rfl
theorem firstN_eq (n b0 b1 b2 b3 : Nat) (hn : 0 < n) (h0 : b0 < 256) (h1 : b1 < 256) (h2 : b2 < 256) (h3 : b3 < 256) :
    firstN n b0 b1 b2 b3 = if Lib.decodeN n b0 b1 b2 b3 = (65533, 1) then (0, 0) else Lib.decodeN n b0 b1 b2 b3 := by
  by_cases c0 : b0 < 128
  · rw [decodeN_1 _ _ _ _ _ c0, if_neg (by simp; omega)]
    unfold firstN
    rw [if_neg (by omega), if_pos c0]
  by_cases c2 : C2 n b0 b1
  · rw [decodeN_2 _ _ _ _ _ c2, if_neg (by simp)]
    obtain ⟨a1, a2, a3, a4⟩ := c2
    unfold firstN
    rw [if_neg (by omega), if_neg c0, if_pos ⟨a1, a2⟩, if_pos (by rw [tailN_eq _ _ _ h1]; exact ⟨a3, a4⟩)]
  by_cases c3 : C3 n b0 b1 b2
  · rw [decodeN_3 _ _ _ _ _ c3, if_neg (by simp)]
    obtain ⟨a1, a2, a3, a4, a5, a6, a7, a8⟩ := c3
    unfold firstN
    rw [if_neg (by omega), if_neg c0, if_neg (by omega), if_pos ⟨a1, a2⟩, if_pos ⟨by rw [tailN_eq _ _ _ h1]; exact ⟨a3, a4⟩, by rw [tailN_eq _ _ _ h2]; exact ⟨a5, a6⟩, a7, a8⟩]
  by_cases c4 : C4 n b0 b1 b2 b3
  · rw [decodeN_4 _ _ _ _ _ c4, if_neg (by simp)]
    obtain ⟨a1, a2, a3, a4, a5, a6, a7, a8, a9, a10⟩ := c4
    unfold firstN
    rw [if_neg (by omega), if_neg c0, if_neg (by omega), if_neg (by omega), if_pos ⟨a1, a2⟩, if_pos ⟨by rw [tailN_eq _ _ _ h1]; exact ⟨a3, a4⟩, by rw [tailN_eq _ _ _ h2]; exact ⟨a5, a6⟩, by rw [tailN_eq _ _ _ h3]; exact ⟨a7, a8⟩, a9, a10⟩]
  rw [decodeN_0 n b0 b1 b2 b3 h0 h1 h2 h3 c0 c2 c3 c4, if_pos rfl]
  unfold firstN
  rw [if_neg (by omega), if_neg c0]
  have e1 := tailN_eq n 1 b1 h1
  have e2 := tailN_eq n 2 b2 h2
  have e3 := tailN_eq n 3 b3 h3
  split
  · rename_i a
    rw [if_neg (fun t => c2 ⟨a.1, a.2, (e1.mp t).1, (e1.mp t).2⟩)]
  · split
    · rename_i a
      rw [if_neg (fun t => c3 ⟨a.1, a.2, (e1.mp t.1).1, (e1.mp t.1).2, (e2.mp t.2.1).1, (e2.mp t.2.1).2, t.2.2.1, t.2.2.2⟩)]
    · split
      · rename_i a
        rw [if_neg (fun t => c4 ⟨a.1, a.2, (e1.mp t.1).1, (e1.mp t.1).2, (e2.mp t.2.1).1, (e2.mp t.2.1).2, (e3.mp t.2.2.1).1, (e3.mp t.2.2.1).2, t.2.2.2.1, t.2.2.2.2⟩)]
      · rfl

theorem firstL_N (l : List UInt8) : firstL l = firstN l.length (l.getD 0 0).toNat (l.getD 1 0).toNat (l.getD 2 0).toNat (l.getD 3 0).toNat := by
  unfold firstL badL
  by_cases h : l = []
  · subst h; rfl
  · rw [if_neg h, Lib.decodeL_N, firstN_eq _ _ _ _ _ (List.length_pos_iff.2 h) (UInt8.toNat_lt _) (UInt8.toNat_lt _) (UInt8.toNat_lt _) (UInt8.toNat_lt _)]
    by_cases hb : Lib.decodeN l.length (l.getD 0 0).toNat (l.getD 1 0).toNat (l.getD 2 0).toNat (l.getD 3 0).toNat = (65533, 1)
    · rw [if_pos hb, if_pos (by simpa using hb)]
    · rw [if_neg hb, if_neg (by simpa using hb)]
theorem badL_nil : badL [] = false := by decide +kernel
/-- The width of a rune is within the text. -/
theorem decodeL_le (l : List UInt8) (h : l ≠ []) : 1 ≤ (Lib.decodeL l).2 ∧ (Lib.decodeL l).2 ≤ l.length := by
  refine ⟨Lib.decodeL_width l, ?_⟩
  have hl : 0 < l.length := List.length_pos_iff.2 h
  rw [Lib.decodeL_N]
  unfold Lib.decodeN
  repeat' split
  all_goals (simp only; omega)
theorem firstL_bad (l : List UInt8) (h : badL l = true) : firstL l = (0, 0) := by
  unfold firstL
  split
  · rfl
  · rfl
theorem firstL_good (l : List UInt8) (hl : l ≠ []) (h : badL l = false) : firstL l = Lib.decodeL l := by
  unfold firstL
  rw [if_neg hl, if_neg (by simp [h])]
/-- What decodes to the replacement rune in three bytes is these three bytes. -/
theorem decodeN_fffd (n b0 b1 b2 b3 : Nat) (h1 : b1 < 256) (h2 : b2 < 256) (h3 : b3 < 256) (h0 : b0 < 256) (h : (Lib.decodeN n b0 b1 b2 b3).1 = 65533) (hw : Lib.decodeN n b0 b1 b2 b3 ≠ (65533, 1)) : 2 < n ∧ b0 = 239 ∧ b1 = 191 ∧ b2 = 189 := by
  unfold Lib.decodeN at h hw
  split at h
  · simp only at h; omega
  rename_i c0
  rw [if_neg c0] at hw
  split at h
  · rename_i c1
    rw [if_pos c1] at hw
    split at h
    · simp only at h; omega
    · rename_i c2
      rw [if_neg c2] at hw
      exact absurd rfl hw
  rename_i c1
  rw [if_neg c1] at hw
  split at h
  · rename_i c2
    rw [if_pos c2] at hw
    split at h
    · simp only at h; omega
    · rename_i c3
      rw [if_neg c3] at hw
      exact absurd rfl hw
  rename_i c2
  rw [if_neg c2] at hw
  split at h
  · rename_i c3
    rw [if_pos c3] at hw
    split at h
    · simp only at h; omega
    · rename_i c4
      rw [if_neg c4] at hw
      exact absurd rfl hw
  · rename_i c3
    rw [if_neg c3] at hw
    exact absurd rfl hw

/-- A replacement rune is one that stands there in three bytes, or none. -/
theorem bad_iff (l : List UInt8) : badL l = (decide ((Lib.decodeL l).1 = 65533) && !(decide ([239, 191, 189] <+: l))) := by
  unfold badL
  rw [Bool.eq_iff_iff, decide_eq_true_eq, Bool.and_eq_true, decide_eq_true_eq, Bool.not_eq_true', decide_eq_false_iff_not]
  constructor
  · intro h
    refine ⟨by rw [h], ?_⟩
    rintro ⟨t, rfl⟩
    rw [Lib.decodeL_N] at h
    simp [Lib.decodeN] at h
  · rintro ⟨h1, h2⟩
    refine Decidable.byContradiction fun hne => ?_
    rw [Lib.decodeL_N] at h1 hne
    obtain ⟨hn, e0, e1, e2⟩ := decodeN_fffd _ _ _ _ _ (UInt8.toNat_lt _) (UInt8.toNat_lt _) (UInt8.toNat_lt _) (UInt8.toNat_lt _) h1 hne
    match l, hn with
    | a :: b :: c :: t, _ =>
      have ea : a = 239 := UInt8.toNat_inj.1 (by simpa using e0)
      have eb : b = 191 := UInt8.toNat_inj.1 (by simpa using e1)
      have ec : c = 189 := UInt8.toNat_inj.1 (by simpa using e2)
      subst ea eb ec
      exact h2 ⟨t, rfl⟩

/-- The runes of a text, counted on from n; -1: it is no UTF-8. -/
def cntL : Nat → List UInt8 → Int → Int
  | 0, _, n => n
  | f + 1, l, n => if l = [] then n else if badL l = true then -1 else cntL f (l.drop (Lib.decodeL l).2) (n + 1)
def runesI (l : List UInt8) : Int := cntL l.length l 0
theorem cntL_step (f : Nat) (l : List UInt8) (n : Int) (h : l ≠ []) (hb : badL l = false) : cntL (f + 1) l n = cntL f (l.drop (Lib.decodeL l).2) (n + 1) := by
  rw [cntL, if_neg h, if_neg (by simp [hb])]
theorem cntL_bad (f : Nat) (l : List UInt8) (n : Int) (h : l ≠ []) (hb : badL l = true) : cntL (f + 1) l n = -1 := by
  rw [cntL, if_neg h, if_pos hb]
theorem cntL_nil (f : Nat) (n : Int) : cntL f [] n = n := by cases f <;> simp [cntL]
end Go.Proofs.YtmiloedhhnknpaaDoor
