/- Plain: what a reader of messages reads, and what is left. Conditions: as each theorem says. -/
import Derived.Test.YtlbacddgjagcbaaValV
import Derived.Test.YtlbacddgjagcbaaPackT
namespace Go.Proofs.Ytlbacddgjagcbaa
open Go.RowKit

theorem numsL_at (n : Int) (l : List Int) : numsL (n :: l) = numL n ++ numsL l := by unfold numsL; rw [List.flatMap_cons]
/-- k numbers, one behind the other. -/
def numsR : Nat → Rd → List Int × Rd
  | 0, r => ([], r)
  | k + 1, r => ((numR r).1 :: (numsR k (numR r).2).1, (numsR k (numR r).2).2)
def entR (r : Rd) : Ent × Rd := (⟨(numsR 2 r).1.getD 0 0, (numsR 2 r).1.getD 1 0, (textR (numsR 2 r).2).1⟩, (textR (numsR 2 r).2).2)
/-- k entries behind those that are read, as long as nothing is wrong. -/
def entsR : Nat → List Ent → Rd → List Ent × Rd
  | 0, D, r => (D, r)
  | k + 1, D, r => if r.e ≠ 0 then (D, r) else entsR k (D ++ [(entR r).1]) (entR r).2
def badFlag (n : Int) : Bool := !decide (n = 0) && !decide (n = 1)
def badNum (n : Int) : Bool := decide (n < 0) || decide (1000 < n)
def voteR (r : Rd) : Mv × Bool × Rd := (.vote ((numsR 6 r).1.getD 0 0) ((numsR 6 r).1.getD 1 0, (numsR 6 r).1.getD 2 0) ((numsR 6 r).1.getD 3 0) ((numsR 6 r).1.getD 4 0) ((numsR 6 r).1.getD 5 0), false, (numsR 6 r).2)
def infoR (r : Rd) : Mv × Bool × Rd := (.info ((numsR 5 r).1.getD 0 0) ((numsR 5 r).1.getD 1 0) ((numsR 5 r).1.getD 2 0) ((numsR 5 r).1.getD 3 0, (numsR 5 r).1.getD 4 0), false, (numsR 5 r).2)
def syncNR (r : Rd) : Int × Rd := numR (textR (numsR 6 r).2).2
def syncER (r : Rd) : List Ent × Rd := if badNum (syncNR r).1 = true then ([], (syncNR r).2) else entsR (syncNR r).1.toNat [] (syncNR r).2
def syncR (r : Rd) : Mv × Bool × Rd := (.sync ((numsR 6 r).1.getD 0 0) ((numsR 6 r).1.getD 1 0) ((numsR 6 r).1.getD 2 0, (numsR 6 r).1.getD 3 0) ((numsR 6 r).1.getD 4 0, (numsR 6 r).1.getD 5 0) (textR (numsR 6 r).2).1 (syncER r).1, badNum (syncNR r).1, (syncER r).2)
def ackR (r : Rd) : Mv × Bool × Rd := (.ack (decide ((numR r).1 = 1)) ((numsR 2 (numR r).2).1.getD 0 0, (numsR 2 (numR r).2).1.getD 1 0), badFlag (numR r).1, (numsR 2 (numR r).2).2)
def askR (r : Rd) : Mv × Bool × Rd := (.ask ((numsR 3 r).1.getD 0 0) ((numsR 3 r).1.getD 1 0) ((numsR 3 r).1.getD 2 0) (decide ((numR (numsR 3 r).2).1 = 1)) (textR (numR (numsR 3 r).2).2).1, badFlag (numR (numsR 3 r).2).1, (textR (numR (numsR 3 r).2).2).2)
/-- The message of a kind: what it has, whether a number was not right, and what is left. -/
def msgR (k : Int) (r : Rd) : Mv × Bool × Rd :=
  if k = 1 then voteR r else if k = 2 then infoR r else if k = 3 then syncR r else if k = 4 then (.prop (entR r).1, false, (entR r).2) else if k = 5 then ackR r else if k = 6 then askR r else (.none, false, r)
def isKind (k : Int) : Bool := decide (1 ≤ k) && decide (k ≤ 6)
theorem numsR_len (k : Nat) : ∀ r, (numsR k r).1.length = k := by
  induction k with
  | zero => intro r; rfl
  | succ k ih => intro r; simp [numsR, ih]
theorem numsR_bd (k : Nat) : ∀ r, ∀ n ∈ (numsR k r).1, i64B n := by
  induction k with
  | zero => intro r n hn; simp [numsR] at hn
  | succ k ih =>
    intro r n hn
    simp only [numsR, List.mem_cons] at hn
    rcases hn with rfl | hn
    · exact numR_bd r
    · exact ih _ n hn
theorem i64z : i64B 0 := ⟨by decide, by decide⟩
theorem numsR_get (k : Nat) (r : Rd) (i : Nat) : i64B ((numsR k r).1.getD i 0) := by
  rw [List.getD_eq_getElem?_getD]
  cases h : (numsR k r).1[i]? with
  | none => exact i64z
  | some n => exact numsR_bd k r n (List.mem_of_getElem? h)
theorem numsR_le (k : Nat) : ∀ r, (numsR k r).2.l.length ≤ r.l.length := by
  induction k with
  | zero => intro r; exact Nat.le_refl _
  | succ k ih => intro r; exact Nat.le_trans (ih _) (numR_len r)
theorem textR_le (r : Rd) : (textR r).1.length ≤ r.l.length := by
  have := numR_len r
  unfold textR
  split
  · simp
  · split
    · simp
    · split
      · simp
      · simp only [List.length_take]; omega
theorem entR_le (r : Rd) : (entR r).2.l.length ≤ r.l.length := Nat.le_trans (textR_len _) (numsR_le 2 r)
theorem entsR_few (k : Nat) : ∀ (D : List Ent) (r : Rd), (entsR k D r).1.length ≤ D.length + k := by
  induction k with
  | zero => intro D r; simp [entsR]
  | succ k ih =>
    intro D r
    unfold entsR
    split
    · simp
    · have := ih (D ++ [(entR r).1]) (entR r).2
      simp only [List.length_append, List.length_cons, List.length_nil] at this
      omega
/-- An error of reading is 10 or 11. -/
theorem numR_err (r : Rd) (h : r.e ≠ 12) : (numR r).2.e ≠ 12 := by
  unfold numR
  split
  · exact h
  · split
    · simp
    · have := dec_kind r.l 0 0
      simp only; omega
theorem numsR_err (k : Nat) : ∀ r, r.e ≠ 12 → (numsR k r).2.e ≠ 12 := by
  induction k with
  | zero => intro r h; exact h
  | succ k ih => intro r h; exact ih _ (numR_err r h)
theorem textR_err (r : Rd) (h : r.e ≠ 12) : (textR r).2.e ≠ 12 := by
  have := numR_err r h
  unfold textR
  split
  · exact this
  split
  · simp
  split
  · simp
  · simp
theorem entR_err (r : Rd) (h : r.e ≠ 12) : (entR r).2.e ≠ 12 := textR_err _ (numsR_err 2 r h)
theorem well_e (r : Rd) (h : r.e ≠ 12) : (decide (endR r = 0) || decide (endR r = 12)) = decide (r.e = 0) := by
  unfold endR
  by_cases h0 : r.e = 0
  · by_cases hl : r.l = []
    · simp [h0, hl]
    · simp [h0, hl]
  · simp [h0, h]
theorem endR_bad (r : Rd) (h : r.e ≠ 0) : endR r = r.e := endR_no r (fun hh => h hh.1)
theorem numsR_one (k : Nat) (r r1 r2 : Rd) (n : Int) (l : List Int) (h1 : numR r = (n, r1)) (h2 : numsR k r1 = (l, r2)) : numsR (k + 1) r = (n :: l, r2) := by simp only [numsR, h1, h2]
theorem wf_i64 {n : Int} (hn : i64B n) : (Lit.int .i64 n).wf = true := by
  unfold i64B at hn
  simp [Lit.wf, IntKind.min, IntKind.max, IntKind.bits, IntKind.signed]
  omega
theorem entR_fit (r : Rd) (h : r.l.length ≤ 9223372036854775807) : (entR r).1.ok := ⟨wf_i64 (numsR_get 2 r 0), wf_i64 (numsR_get 2 r 1), by unfold maxLen; exact Nat.le_trans (Nat.le_trans (textR_le _) (numsR_le 2 r)) h⟩
end Go.Proofs.Ytlbacddgjagcbaa
