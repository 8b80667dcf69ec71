/- The plain law of packed numbers and texts: what is written, what is read back; no program in sight. Conditions: as each theorem says. -/
namespace Go.Proofs.Ytlcblkmmkphpmaa

/-- A number as one that is not below zero: the sign is the lowest bit. -/
def zig (n : Int) : Nat := if 0 ≤ n then (2 * n).toNat else (-2 * n - 1).toNat
def unzig (u : Nat) : Int := if u % 2 = 0 then (u / 2 : Nat) else -1 - (u / 2 : Nat)
theorem unzig_zig (n : Int) : unzig (zig n) = n := by
  unfold unzig zig
  split <;> split <;> omega
theorem zig_unzig (u : Nat) : zig (unzig u) = u := by
  unfold unzig zig
  split <;> split <;> omega
theorem zig_lt (n : Int) (h1 : -9223372036854775808 ≤ n) (h2 : n ≤ 9223372036854775807) : zig n < 18446744073709551616 := by
  unfold zig; split <;> omega
theorem unzig_bd (u : Nat) (h : u < 18446744073709551616) : -9223372036854775808 ≤ unzig u ∧ unzig u ≤ 9223372036854775807 := by
  unfold unzig; split <;> omega
theorem zig_nat (n : Nat) : zig (n : Int) = 2 * n := by unfold zig; split <;> omega

/-- Seven bits a byte, the lowest first; the top bit: there are more. (Fuel: the number itself.) -/
def vbF : Nat → Nat → List UInt8
  | 0, u => [UInt8.ofNat u]
  | f + 1, u => if u < 128 then [UInt8.ofNat u] else UInt8.ofNat (u % 128 + 128) :: vbF f (u / 128)
def vb (u : Nat) : List UInt8 := vbF u u
theorem vbF_eq (f g u : Nat) (hf : u ≤ f) (hg : u ≤ g) : vbF f u = vbF g u := by
  induction f generalizing g u with
  | zero =>
    obtain rfl : u = 0 := by omega
    cases g <;> simp [vbF]
  | succ f ih =>
    cases g with
    | zero =>
      obtain rfl : u = 0 := by omega
      simp [vbF]
    | succ g =>
      simp only [vbF]
      split
      · rfl
      · rw [ih g (u / 128) (by omega) (by omega)]
theorem vb_lo (u : Nat) (h : u < 128) : vb u = [UInt8.ofNat u] := by
  unfold vb
  cases u with
  | zero => rfl
  | succ u => simp only [vbF, if_pos h]
theorem vb_hi (u : Nat) (h : 128 ≤ u) : vb u = UInt8.ofNat (u % 128 + 128) :: vb (u / 128) := by
  unfold vb
  cases u with
  | zero => omega
  | succ u =>
    rw [vbF, if_neg (by omega), vbF_eq u ((u + 1) / 128) _ (by omega) (Nat.le_refl _)]
def numL (n : Int) : List UInt8 := vb (zig n)
def textL (s : List UInt8) : List UInt8 := numL s.length ++ s
def listL (l : List (List UInt8)) : List UInt8 := numL l.length ++ l.flatMap textL

theorem vb_ne (u : Nat) : vb u ≠ [] := by
  by_cases h : u < 128
  · rw [vb_lo u h]; simp
  · rw [vb_hi u (by omega)]; simp
theorem numL_ne (n : Int) : numL n ≠ [] := vb_ne _
theorem vb_len (k : Nat) : ∀ u, u < 128 ^ k → 1 ≤ k → (vb u).length ≤ k := by
  induction k with
  | zero => intro u _ h; omega
  | succ k ih =>
    intro u hu _
    by_cases h : u < 128
    · rw [vb_lo u h]; simp
    · rw [vb_hi u (by omega)]
      have h1 : u / 128 < 128 ^ k := by rw [Nat.pow_succ] at hu; omega
      have hk : 1 ≤ k := by
        cases k with
        | zero => simp at h1; omega
        | succ k => omega
      have := ih (u / 128) h1 hk
      simp; omega
theorem vb_len10 (u : Nat) (h : u < 18446744073709551616) : (vb u).length ≤ 10 := by
  have e : (128 : Nat) ^ 10 = 1180591620717411303424 := by decide
  exact vb_len 10 u (by omega) (by omega)

/-- What reading a number finds, from its byte number i on: what is wrong (10: ends too early, 11: bytes that are none), or the number and what is behind it. -/
def dec (i u : Nat) : List UInt8 → Nat × Nat × List UInt8
  | [] => (10, 0, [])
  | b :: r => if (i = 9 ∧ 1 < b.toNat) ∨ (0 < i ∧ b.toNat = 0) then (11, 0, b :: r)
    else if b.toNat < 128 then (0, u + b.toNat * 2 ^ (7 * i), r)
    else if i = 9 then (11, 0, b :: r) else dec (i + 1) (u + (b.toNat - 128) * 2 ^ (7 * i)) r
theorem dec_lt (l : List UInt8) : ∀ (i u : Nat), i ≤ 9 → u < 2 ^ (7 * i) → (dec i u l).2.1 < 18446744073709551616 := by
  induction l with
  | nil => intro i u _ _; simp [dec]
  | cons b r ih =>
    intro i u hi hu
    have hb := b.toNat_lt
    unfold dec
    split
    · simp
    · rename_i hno
      split
      · rename_i h128
        simp only
        rcases Nat.lt_or_ge i 9 with h9 | h9
        · have h1 : u + b.toNat * 2 ^ (7 * i) < 2 ^ (7 * (i + 1)) := by
            have : b.toNat * 2 ^ (7 * i) ≤ 127 * 2 ^ (7 * i) := Nat.mul_le_mul_right _ (by omega)
            have e : 2 ^ (7 * (i + 1)) = 128 * 2 ^ (7 * i) := by rw [Nat.mul_add, Nat.pow_add]; omega
            omega
          have h2 : 2 ^ (7 * (i + 1)) ≤ 2 ^ 63 := Nat.pow_le_pow_right (by omega) (by omega)
          have h3 : (2 : Nat) ^ 63 = 9223372036854775808 := by decide
          omega
        · obtain rfl : i = 9 := by omega
          have h4 : (2 : Nat) ^ (7 * 9) = 9223372036854775808 := by decide
          rw [h4] at hu ⊢
          have : b.toNat ≤ 1 := by omega
          have : b.toNat * 9223372036854775808 ≤ 1 * 9223372036854775808 := Nat.mul_le_mul_right _ this
          omega
      · split
        · simp
        · rename_i h128 h9
          refine ih (i + 1) _ (by omega) ?_
          have : (b.toNat - 128) * 2 ^ (7 * i) ≤ 127 * 2 ^ (7 * i) := Nat.mul_le_mul_right _ (by omega)
          have e : 2 ^ (7 * (i + 1)) = 128 * 2 ^ (7 * i) := by rw [Nat.mul_add, Nat.pow_add]; omega
          omega
/-- What was written is read. -/
theorem dec_vb (k : Nat) : ∀ (i u v : Nat) (r : List UInt8), i + k = 9 → v < 2 ^ (1 + 7 * k) → (0 < i → 0 < v) → dec i u (vb v ++ r) = (0, u + v * 2 ^ (7 * i), r) := by
  induction k with
  | zero =>
    intro i u v r hi hv h0
    obtain rfl : i = 9 := by omega
    have hv1 : v = 1 := by have := h0 (by omega); omega
    subst hv1
    rw [vb_lo 1 (by omega)]
    simp [dec]
  | succ k ih =>
    intro i u v r hi hv h0
    have hi9 : i ≠ 9 := by omega
    by_cases h : v < 128
    · rw [vb_lo v h]
      have hb : (UInt8.ofNat v).toNat = v := by simp [UInt8.toNat_ofNat']; omega
      rw [List.singleton_append, dec, hb, if_neg (by omega), if_pos h]
    · rw [vb_hi v (by omega)]
      have hb : (UInt8.ofNat (v % 128 + 128)).toNat = v % 128 + 128 := by simp [UInt8.toNat_ofNat']; omega
      have e7 : 2 ^ (1 + 7 * (k + 1)) = 128 * 2 ^ (1 + 7 * k) := by
        rw [show 1 + 7 * (k + 1) = 7 + (1 + 7 * k) by omega, Nat.pow_add]
      have e : 2 ^ (7 * (i + 1)) = 128 * 2 ^ (7 * i) := by rw [Nat.mul_add, Nat.pow_add]; omega
      rw [List.cons_append, dec, hb, if_neg (by omega), if_neg (by omega), if_neg hi9, ih (i + 1) _ (v / 128) r (by omega) (by omega) (fun _ => by omega), e]
      congr 2
      have h1 : v % 128 + 128 - 128 = v % 128 := by omega
      rw [h1]
      have h2 : v = v % 128 + 128 * (v / 128) := by omega
      have h3 : v * 2 ^ (7 * i) = v % 128 * 2 ^ (7 * i) + v / 128 * (128 * 2 ^ (7 * i)) := by
        rw [← Nat.mul_assoc, Nat.mul_comm (v / 128) 128, ← Nat.add_mul, ← h2]
      omega
theorem dec_num (v : Nat) (h : v < 18446744073709551616) (r : List UInt8) : dec 0 0 (vb v ++ r) = (0, v, r) := by
  have e : (2 : Nat) ^ (1 + 7 * 9) = 18446744073709551616 := by decide
  have := dec_vb 9 0 0 v r (by omega) (by omega) (by omega)
  simpa using this
/-- What is read was written so. -/
theorem dec_back (l : List UInt8) : ∀ (i u v : Nat) (r : List UInt8), i ≤ 9 → u < 2 ^ (7 * i) → dec i u l = (0, v, r) → ∃ q, v = u + q * 2 ^ (7 * i) ∧ l = vb q ++ r ∧ (0 < i → 0 < q) := by
  induction l with
  | nil => intro i u v r _ _ h; simp [dec] at h
  | cons b r' ih =>
    intro i u v r hi hu h
    have hb := b.toNat_lt
    unfold dec at h
    split at h
    · simp at h
    · rename_i hno
      split at h
      · rename_i h128
        simp only [Prod.mk.injEq, true_and] at h
        obtain ⟨rfl, rfl⟩ := h
        refine ⟨b.toNat, rfl, ?_, fun h => by omega⟩
        rw [vb_lo _ h128]
        simp
      · split at h
        · simp at h
        · rename_i h128 h9
          have e : 2 ^ (7 * (i + 1)) = 128 * 2 ^ (7 * i) := by rw [Nat.mul_add, Nat.pow_add]; omega
          have hlt : u + (b.toNat - 128) * 2 ^ (7 * i) < 2 ^ (7 * (i + 1)) := by
            have : (b.toNat - 128) * 2 ^ (7 * i) ≤ 127 * 2 ^ (7 * i) := Nat.mul_le_mul_right _ (by omega)
            omega
          obtain ⟨q, h1, h2, h3⟩ := ih (i + 1) _ v r (by omega) hlt h
          have hq := h3 (by omega)
          refine ⟨b.toNat - 128 + 128 * q, ?_, ?_, fun _ => by omega⟩
          · rw [h1, e, Nat.add_mul, Nat.mul_assoc 128 q, Nat.mul_comm 128 (q * _), Nat.mul_assoc q, Nat.mul_comm _ 128, Nat.add_assoc]
          · rw [vb_hi _ (by omega), h2]
            have e1 : (b.toNat - 128 + 128 * q) % 128 + 128 = b.toNat := by omega
            have e2 : (b.toNat - 128 + 128 * q) / 128 = q := by omega
            rw [e1, e2]
            simp
theorem dec_num_back (l r : List UInt8) (v : Nat) (h : dec 0 0 l = (0, v, r)) : l = vb v ++ r := by
  obtain ⟨q, h1, h2, _⟩ := dec_back l 0 0 v r (by omega) (by simp) h
  simp at h1
  rw [h1]
  exact h2
theorem dec_kind (l : List UInt8) : ∀ (i u : Nat), (dec i u l).1 = 0 ∨ (dec i u l).1 = 10 ∨ (dec i u l).1 = 11 := by
  induction l with
  | nil => intro i u; simp [dec]
  | cons b r ih =>
    intro i u
    unfold dec
    split
    · simp
    · split
      · simp
      · split
        · simp
        · exact ih _ _
/-- A true beginning of a number's bytes ends too early. -/
theorem dec_cut (k : Nat) : ∀ (i u v : Nat) (p q : List UInt8), i + k = 9 → v < 2 ^ (1 + 7 * k) → (0 < i → 0 < v) → vb v = p ++ q → q ≠ [] → (dec i u p).1 = 10 := by
  induction k with
  | zero =>
    intro i u v p q hi hv h0 h hq
    obtain rfl : i = 9 := by omega
    have hv1 : v = 1 := by have := h0 (by omega); omega
    subst hv1
    rw [vb_lo 1 (by omega)] at h
    cases p with
    | nil => rfl
    | cons b p =>
      have := congrArg List.length h
      have hq' := List.length_pos_iff.2 hq
      simp only [List.length_cons, List.length_append, List.length_nil] at this
      omega
  | succ k ih =>
    intro i u v p q hi hv h0 h hq
    cases p with
    | nil => rfl
    | cons b p =>
      by_cases hlt : v < 128
      · rw [vb_lo v hlt] at h
        have := congrArg List.length h
        have hq' := List.length_pos_iff.2 hq
        simp only [List.length_cons, List.length_append, List.length_nil] at this
        omega
      · rw [vb_hi v (by omega), List.cons_append] at h
        obtain ⟨hb, hr⟩ := List.cons.inj h
        have hbn : b.toNat = v % 128 + 128 := by rw [← hb]; simp [UInt8.toNat_ofNat']; omega
        have e7 : 2 ^ (1 + 7 * (k + 1)) = 128 * 2 ^ (1 + 7 * k) := by
          rw [show 1 + 7 * (k + 1) = 7 + (1 + 7 * k) by omega, Nat.pow_add]
        rw [dec, hbn, if_neg (by omega), if_neg (by omega), if_neg (by omega)]
        exact ih (i + 1) _ (v / 128) p q (by omega) (by omega) (fun _ => by omega) hr hq
end Go.Proofs.Ytlcblkmmkphpmaa
