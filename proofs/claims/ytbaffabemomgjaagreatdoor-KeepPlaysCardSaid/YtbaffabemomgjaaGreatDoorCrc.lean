/- The plain law of the sums: the reflected checksum over Nat: steps are linear over exclusive or and one to one; no program in sight. Conditions: none. -/
namespace Go.Proofs.YtbaffabemomgjaaGreatDoor

/-- One step of the checksum. -/
def step (n : Nat) : Nat := if n % 2 = 1 then n / 2 ^^^ 3988292384 else n / 2
/-- So many steps. -/
def steps (n : Nat) : Nat → Nat
  | 0 => n
  | k + 1 => step (steps n k)
/-- A byte's number. -/
def tab (b : Nat) : Nat := steps b 8
/-- The sum goes on by one byte, with a table. -/
def upd (t : Nat → Nat) (n b : Nat) : Nat := n / 256 ^^^ t ((n % 256) ^^^ b)
/-- The sum goes on by bytes, with a table. -/
def goL (t : Nat → Nat) (n : Nat) (l : List UInt8) : Nat := l.foldl (fun n b => upd t n b.toNat) n
/-- All bits turned. -/
def inv (n : Nat) : Nat := 4294967295 - n
def crc (l : List UInt8) : Nat := inv (goL tab 4294967295 l)

theorem step_lt (n : Nat) (h : n < 4294967296) : step n < 4294967296 := by
  unfold step
  split
  · exact Nat.xor_lt_two_pow (n := 32) (by omega) (by omega)
  · omega
theorem steps_lt (n k : Nat) (h : n < 4294967296) : steps n k < 4294967296 := by
  induction k with
  | zero => exact h
  | succ k ih => exact step_lt _ ih
theorem tab_lt (b : Nat) (h : b < 4294967296) : tab b < 4294967296 := steps_lt _ _ h
theorem xor256 (a b : Nat) (ha : a < 256) (hb : b < 256) : a ^^^ b < 256 := Nat.xor_lt_two_pow (n := 8) ha hb
theorem upd_lt (t : Nat → Nat) (ht : ∀ i, i < 256 → t i < 4294967296) (n b : Nat) (h : n < 4294967296) (hb : b < 256) : upd t n b < 4294967296 :=
  Nat.xor_lt_two_pow (n := 32) (by omega) (ht _ (xor256 _ _ (by omega) hb))
theorem goL_lt (t : Nat → Nat) (ht : ∀ i, i < 256 → t i < 4294967296) (l : List UInt8) : ∀ n, n < 4294967296 → goL t n l < 4294967296 := by
  induction l with
  | nil => exact fun n h => h
  | cons b l ih => exact fun n h => ih _ (upd_lt t ht n _ h b.toNat_lt)
theorem goL_append (t : Nat → Nat) (n : Nat) (a b : List UInt8) : goL t n (a ++ b) = goL t (goL t n a) b := by
  simp [goL, List.foldl_append]
theorem inv_inv (n : Nat) (h : n < 4294967296) : inv (inv n) = n := by unfold inv; omega
theorem crc_append (a b : List UInt8) : crc (a ++ b) = inv (goL tab (inv (crc a)) b) := by
  unfold crc
  rw [inv_inv _ (goL_lt tab (fun i hi => tab_lt i (by omega)) _ _ (by omega)), goL_append]

/-! Steps are linear over exclusive or. -/
theorem xor_div2 (a b : Nat) : (a ^^^ b) / 2 = a / 2 ^^^ b / 2 := by
  simpa [Nat.shiftRight_eq_div_pow] using Nat.shiftRight_xor_distrib (a := a) (b := b) (i := 1)
theorem xor_mod2 (a b : Nat) : (a ^^^ b) % 2 = 1 ↔ ¬ (a % 2 = 1 ↔ b % 2 = 1) := by
  have h := Nat.testBit_xor a b 0
  simp only [Nat.testBit_zero] at h
  by_cases h1 : a % 2 = 1 <;> by_cases h2 : b % 2 = 1 <;> simp_all
theorem step_xor (a b : Nat) : step (a ^^^ b) = step a ^^^ step b := by
  unfold step
  have h := xor_mod2 a b
  rw [xor_div2]
  by_cases h1 : a % 2 = 1 <;> by_cases h2 : b % 2 = 1
  · rw [if_neg (by simp [h, h1, h2]), if_pos h1, if_pos h2, Nat.xor_assoc, Nat.xor_comm 3988292384, Nat.xor_assoc, Nat.xor_self, Nat.xor_zero]
  · rw [if_pos (by simp [h, h1, h2]), if_pos h1, if_neg h2, Nat.xor_assoc, Nat.xor_assoc, Nat.xor_comm (b / 2)]
  · rw [if_pos (by simp [h, h1, h2]), if_neg h1, if_pos h2, Nat.xor_assoc]
  · rw [if_neg (by simp [h, h1, h2]), if_neg h1, if_neg h2]
theorem steps_xor (a b k : Nat) : steps (a ^^^ b) k = steps a k ^^^ steps b k := by
  induction k with
  | zero => rfl
  | succ k ih => simp only [steps, ih, step_xor]
theorem step_even (a : Nat) : step (2 * a) = a := by
  unfold step
  rw [if_neg (by omega)]
  omega
theorem steps_shift (a : Nat) : steps (a * 256) 8 = a := by
  simp only [steps]
  rw [show a * 256 = 2 * (a * 128) from by omega, step_even, show a * 128 = 2 * (a * 64) from by omega, step_even, show a * 64 = 2 * (a * 32) from by omega, step_even,
    show a * 32 = 2 * (a * 16) from by omega, step_even, show a * 16 = 2 * (a * 8) from by omega, step_even, show a * 8 = 2 * (a * 4) from by omega, step_even,
    show a * 4 = 2 * (a * 2) from by omega, step_even, show a * 2 = 2 * a from by omega, step_even]
theorem split256 (n : Nat) : n = n / 256 * 256 ^^^ n % 256 := by
  have h : n / 256 * 256 + n % 256 = n / 256 * 256 ^^^ n % 256 := by
    have h1 := Nat.shiftLeft_add_eq_or_of_lt (b := n % 256) (i := 8) (by omega) (n / 256)
    have h2 : (n / 256) <<< 8 = n / 256 * 256 := by rw [Nat.shiftLeft_eq]
    rw [h2] at h1
    rw [h1]
    apply Nat.eq_of_testBit_eq
    intro i
    rw [Nat.testBit_or, Nat.testBit_xor]
    by_cases hi : i < 8
    · have : (n / 256 * 256).testBit i = false := by
        have e8 : n / 256 * 256 = 2 ^ 8 * (n / 256) := Nat.mul_comm _ _
        rw [e8, Nat.testBit_two_pow_mul]
        simp; omega
      simp [this]
    · have : (n % 256).testBit i = false := by
        rw [show (256 : Nat) = 2 ^ 8 from rfl, Nat.testBit_mod_two_pow]
        simp [hi]
      simp [this]
  omega
/-- THE REFERENCE'S ROUND (eight steps of the sum with the byte in it) IS THE TABLE'S. -/
theorem steps_upd (n b : Nat) : steps (n ^^^ b) 8 = upd tab n b := by
  have h := split256 n
  have e : n ^^^ b = n / 256 * 256 ^^^ (n % 256 ^^^ b) := by
    rw [← Nat.xor_assoc, ← h]
  rw [e, steps_xor, steps_shift]
  rfl

/-! Steps are one to one below 2^32. -/
theorem bit31 (a : Nat) (h : a < 2147483648) : (a ^^^ 3988292384) ≥ 2147483648 := by
  have h1 : (a ^^^ 3988292384).testBit 31 = true := by
    rw [Nat.testBit_xor]
    have h2 : a.testBit 31 = false := Nat.testBit_lt_two_pow (show a < 2 ^ 31 by simpa using h)
    have h3 : (3988292384 : Nat).testBit 31 = true := by decide +kernel
    rw [h2, h3]; rfl
  have h5 := Nat.ge_two_pow_of_testBit h1
  simpa using h5
theorem step_inj (a b : Nat) (ha : a < 4294967296) (hb : b < 4294967296) (h : step a = step b) : a = b := by
  unfold step at h
  by_cases h1 : a % 2 = 1 <;> by_cases h2 : b % 2 = 1
  · rw [if_pos h1, if_pos h2] at h
    have h3 : a / 2 = b / 2 := by
      have h4 := congrArg (· ^^^ 3988292384) h
      simpa [Nat.xor_assoc] using h4
    omega
  · rw [if_pos h1, if_neg h2] at h
    have := bit31 (a / 2) (by omega)
    omega
  · rw [if_neg h1, if_pos h2] at h
    have := bit31 (b / 2) (by omega)
    omega
  · rw [if_neg h1, if_neg h2] at h
    omega
theorem steps_inj (a b k : Nat) (ha : a < 4294967296) (hb : b < 4294967296) (h : steps a k = steps b k) : a = b := by
  induction k with
  | zero => exact h
  | succ k ih => exact ih (step_inj _ _ (steps_lt _ _ ha) (steps_lt _ _ hb) h)
theorem xor_cancel (n a b : Nat) (h : n ^^^ a = n ^^^ b) : a = b := by
  have h4 := congrArg (n ^^^ ·) h
  simpa [← Nat.xor_assoc] using h4
theorem xor_lt32 (a b : Nat) (ha : a < 4294967296) (hb : b < 4294967296) : a ^^^ b < 4294967296 := Nat.xor_lt_two_pow (n := 32) ha hb
theorem upd_inj_n (a b c : Nat) (ha : a < 4294967296) (hb : b < 4294967296) (hc : c < 256) (h : upd tab a c = upd tab b c) : a = b := by
  rw [← steps_upd, ← steps_upd] at h
  have := steps_inj _ _ _ (xor_lt32 a c ha (by omega)) (xor_lt32 b c hb (by omega)) h
  rw [Nat.xor_comm a, Nat.xor_comm b] at this
  exact xor_cancel _ _ _ this
theorem upd_inj_b (n a b : Nat) (hn : n < 4294967296) (ha : a < 256) (hb : b < 256) (h : upd tab n a = upd tab n b) : a = b := by
  rw [← steps_upd, ← steps_upd] at h
  exact xor_cancel _ _ _ (steps_inj _ _ _ (xor_lt32 n a hn (by omega)) (xor_lt32 n b hn (by omega)) h)
theorem goL_inj (l : List UInt8) : ∀ a b, a < 4294967296 → b < 4294967296 → goL tab a l = goL tab b l → a = b := by
  induction l with
  | nil => exact fun a b _ _ h => h
  | cons c l ih =>
    intro a b ha hb h
    have ht : ∀ i, i < 256 → tab i < 4294967296 := fun i hi => tab_lt i (by omega)
    exact upd_inj_n a b c.toNat ha hb c.toNat_lt (ih _ _ (upd_lt tab ht _ _ ha c.toNat_lt) (upd_lt tab ht _ _ hb c.toNat_lt) h)
theorem goL_tab_lt (n : Nat) (l : List UInt8) (h : n < 4294967296) : goL tab n l < 4294967296 := goL_lt tab (fun i hi => tab_lt i (by omega)) l n h
/-- A TEXT OF WHICH ONE BYTE IS ANOTHER ONE HAS ANOTHER SUM. -/
theorem crc_tells (p q : List UInt8) (a b : UInt8) (h : crc (p ++ a :: q) = crc (p ++ b :: q)) : a = b := by
  unfold crc at h
  have h1 := goL_tab_lt 4294967295 (p ++ a :: q) (by omega)
  have h2 := goL_tab_lt 4294967295 (p ++ b :: q) (by omega)
  have h3 : goL tab 4294967295 (p ++ a :: q) = goL tab 4294967295 (p ++ b :: q) := by unfold inv at h; omega
  rw [goL_append, goL_append] at h3
  have h0 := goL_tab_lt 4294967295 p (by omega)
  have ht : ∀ i, i < 256 → tab i < 4294967296 := fun i hi => tab_lt i (by omega)
  have h4 := goL_inj q _ _ (upd_lt tab ht _ _ h0 a.toNat_lt) (upd_lt tab ht _ _ h0 b.toNat_lt) h3
  have h5 := upd_inj_b _ _ _ h0 a.toNat_lt b.toNat_lt h4
  exact UInt8.toNat_inj.mp h5
/-- The reference's sum. -/
theorem ref_crc (l : List UInt8) : ∀ n, l.foldl (fun n b => steps (n ^^^ b.toNat) 8) n = goL tab n l := by
  induction l with
  | nil => exact fun n => rfl
  | cons b l ih => intro n; simp only [List.foldl_cons, goL]; rw [ih, steps_upd]; rfl
theorem crc_awake : crc [49, 50, 51, 52, 53, 54, 55, 56, 57] = 3421780262 := by decide +kernel
theorem crc_nil : crc [] = 0 := by decide +kernel
end Go.Proofs.YtbaffabemomgjaaGreatDoor
