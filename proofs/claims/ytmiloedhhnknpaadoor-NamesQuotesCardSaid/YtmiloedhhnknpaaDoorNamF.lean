/- The walk of the reference's First. Conditions: as each theorem says. -/
import Derived.Test.YtmiloedhhnknpaaDoorNamW
import Derived.Laws.BitsAllLaws
import Derived.Laws.BitsLemmas
namespace Go.Proofs.YtmiloedhhnknpaaDoor
open Go.RowKit

theorem ofInt_i64 (a : Nat) (ha : a < 9223372036854775808) : (BitVec.ofInt 64 (a : Int)).toNat = a := by
  rw [BitVec.ofInt_natCast, BitVec.toNat_ofNat]; exact Nat.mod_eq_of_lt (by omega)
theorem i64_and_nat (a b : Nat) (ha : a < 9223372036854775808) (hb : b < 9223372036854775808) : bits .and .i64 (a : Int) (b : Int) = ((a &&& b : Nat) : Int) := by
  have hx : a &&& b < 2 ^ 63 := Nat.and_lt_two_pow _ (by omega)
  show IntKind.i64.wrap ((BitVec.ofInt 64 (a : Int) &&& BitVec.ofInt 64 (b : Int)).toNat : Int) = _
  rw [BitVec.toNat_and, ofInt_i64 a ha, ofInt_i64 b hb, IntKind.wrap_i64]
  omega
theorem i64_or_nat (a b : Nat) (ha : a < 9223372036854775808) (hb : b < 9223372036854775808) : bits .or .i64 (a : Int) (b : Int) = ((a ||| b : Nat) : Int) := by
  have hx : a ||| b < 2 ^ 63 := Nat.or_lt_two_pow (by omega) (by omega)
  show IntKind.i64.wrap ((BitVec.ofInt 64 (a : Int) ||| BitVec.ofInt 64 (b : Int)).toNat : Int) = _
  rw [BitVec.toNat_or, ofInt_i64 a ha, ofInt_i64 b hb, IntKind.wrap_i64]
  omega
theorem and_mask (a k m : Nat) (hm : m = 2 ^ k - 1) (hm2 : m < 9223372036854775808) (h : a < 9223372036854775808) : bits .and .i64 (a : Int) (m : Int) = ((a % 2 ^ k : Nat) : Int) := by
  rw [i64_and_nat a m h hm2, hm, Nat.and_two_pow_sub_one_eq_mod]
theorem or_shift (x y k : Nat) (hy : y < 2 ^ k) (hx : x * 2 ^ k < 9223372036854775808) (hy2 : y < 9223372036854775808) : bits .or .i64 ((x * 2 ^ k : Nat) : Int) (y : Int) = ((x * 2 ^ k + y : Nat) : Int) := by
  rw [i64_or_nat _ _ hx hy2, ← Nat.shiftLeft_eq, ← Nat.shiftLeft_add_eq_or_of_lt hy]
theorem wrap64_nat (a : Nat) (h : a < 9223372036854775808) : wrap64 (a : Int) = (a : Int) := by
  unfold wrap64; omega
def r2Z (a b : Nat) : Int := bits .or .i64 (wrap64 (bits .and .i64 (a : Int) 31 * 64)) (bits .and .i64 (wrap64 (b : Int)) 63)
def r3Z (a b c : Nat) : Int := bits .or .i64 (bits .or .i64 (wrap64 (bits .and .i64 (a : Int) 15 * 4096)) (wrap64 (bits .and .i64 (wrap64 (b : Int)) 63 * 64))) (bits .and .i64 (wrap64 (c : Int)) 63)
def r4Z (a b c d : Nat) : Int := bits .or .i64 (bits .or .i64 (bits .or .i64 (wrap64 (bits .and .i64 (a : Int) 7 * 262144)) (wrap64 (bits .and .i64 (wrap64 (b : Int)) 63 * 4096))) (wrap64 (bits .and .i64 (wrap64 (c : Int)) 63 * 64))) (bits .and .i64 (wrap64 (d : Int)) 63)
theorem m63 (b : Nat) (h : b < 256) : bits .and .i64 (wrap64 (b : Int)) 63 = ((b % 64 : Nat) : Int) := by
  rw [wrap64_nat b (by omega)]; exact and_mask b 6 63 rfl (by omega) (by omega)
theorem sh (x m k : Nat) (hm : m = 2 ^ k) (h : x * m < 9223372036854775808) : wrap64 ((x : Int) * (m : Int)) = ((x * 2 ^ k : Nat) : Int) := by
  subst hm
  rw [← Int.natCast_mul, wrap64_nat _ h]
theorem r2Z_eq (a b : Nat) (ha : a < 256) (hb : b < 256) : r2Z a b = ((a % 32 * 64 + b % 64 : Nat) : Int) := by
  unfold r2Z
  rw [m63 b hb, show bits BinOp.and IntKind.i64 (a : Int) 31 = ((a % 32 : Nat) : Int) from and_mask a 5 31 rfl (by omega) (by omega)]
  rw [show wrap64 (((a % 32 : Nat) : Int) * 64) = ((a % 32 * 2 ^ 6 : Nat) : Int) from sh (a % 32) 64 6 rfl (by omega)]
  exact or_shift (a % 32) (b % 64) 6 (by omega) (by omega) (by omega)
theorem r3Z_eq (a b c : Nat) (ha : a < 256) (hb : b < 256) (hc : c < 256) : r3Z a b c = ((a % 16 * 4096 + b % 64 * 64 + c % 64 : Nat) : Int) := by
  unfold r3Z
  rw [m63 b hb, m63 c hc, show bits BinOp.and IntKind.i64 (a : Int) 15 = ((a % 16 : Nat) : Int) from and_mask a 4 15 rfl (by omega) (by omega)]
  rw [show wrap64 (((a % 16 : Nat) : Int) * 4096) = ((a % 16 * 2 ^ 12 : Nat) : Int) from sh (a % 16) 4096 12 rfl (by omega)]
  rw [show wrap64 (((b % 64 : Nat) : Int) * 64) = ((b % 64 * 2 ^ 6 : Nat) : Int) from sh (b % 64) 64 6 rfl (by omega)]
  rw [or_shift (a % 16) (b % 64 * 2 ^ 6) 12 (by omega) (by omega) (by omega)]
  rw [show a % 16 * 2 ^ 12 + b % 64 * 2 ^ 6 = (a % 16 * 64 + b % 64) * 2 ^ 6 by omega]
  rw [or_shift (a % 16 * 64 + b % 64) (c % 64) 6 (by omega) (by omega) (by omega)]
theorem r4Z_eq (a b c d : Nat) (ha : a < 256) (hb : b < 256) (hc : c < 256) (hd : d < 256) : r4Z a b c d = ((a % 8 * 262144 + b % 64 * 4096 + c % 64 * 64 + d % 64 : Nat) : Int) := by
  unfold r4Z
  rw [m63 b hb, m63 c hc, m63 d hd, show bits BinOp.and IntKind.i64 (a : Int) 7 = ((a % 8 : Nat) : Int) from and_mask a 3 7 rfl (by omega) (by omega)]
  rw [show wrap64 (((a % 8 : Nat) : Int) * 262144) = ((a % 8 * 2 ^ 18 : Nat) : Int) from sh (a % 8) 262144 18 rfl (by omega)]
  rw [show wrap64 (((b % 64 : Nat) : Int) * 4096) = ((b % 64 * 2 ^ 12 : Nat) : Int) from sh (b % 64) 4096 12 rfl (by omega)]
  rw [show wrap64 (((c % 64 : Nat) : Int) * 64) = ((c % 64 * 2 ^ 6 : Nat) : Int) from sh (c % 64) 64 6 rfl (by omega)]
  rw [or_shift (a % 8) (b % 64 * 2 ^ 12) 18 (by omega) (by omega) (by omega)]
  rw [show a % 8 * 2 ^ 18 + b % 64 * 2 ^ 12 = (a % 8 * 64 + b % 64) * 2 ^ 12 by omega]
  rw [or_shift (a % 8 * 64 + b % 64) (c % 64 * 2 ^ 6) 12 (by omega) (by omega) (by omega)]
  rw [show (a % 8 * 64 + b % 64) * 2 ^ 12 + c % 64 * 2 ^ 6 = ((a % 8 * 64 + b % 64) * 64 + c % 64) * 2 ^ 6 by omega]
  rw [or_shift ((a % 8 * 64 + b % 64) * 64 + c % 64) (d % 64) 6 (by omega) (by omega) (by omega)]

theorem drewN_below (w : World) (n : Nat) : Below w.heap.size w (w.drewN n) := ⟨rfl, rfl, rfl, Nat.le_refl _, fun _ _ => rfl⟩
def FirstSaid (s : ByteArray) (p : Nat × Nat) (w : World) (e : Ending) (w' : World) : Prop := e = .returned (.tuple #[.int .i64 (p.1 : Int), .int .i64 (p.2 : Int)]) ∧ Below w.heap.size w w'
theorem first_0 (s : ByteArray) (w : World) (h : s.size = 0) : Calls Tryd.prog 28 #[.string s] w fun e w' => FirstSaid s (0, 0) w e w' := by
  have hz := isNone s h
  subst hz
  go_enter Tryd.func28, Tryd.ntmps28
  go_wp2
  go_ret2
  exact ⟨rfl, Below.refl _ _⟩
set_option maxRecDepth 1000000 in
set_option maxHeartbeats 1000000 in
theorem first_1 (s : ByteArray) (w : World) (h : 0 < s.size) (hs : s.size ≤ 9223372036854775807) (h0 : s[0].toNat < 128) : Calls Tryd.prog 28 #[.string s] w fun e w' => FirstSaid s (s[0].toNat, 1) w e w' := by
  have hne : ((s.size : Int) == 0) = false := by rw [beq_eq_false_iff_ne]; omega
  have hb0 : (s[0].toNat : Int) < 256 := by have := UInt8.toNat_lt s[0]; omega
  have d1 : decide ((s[0].toNat : Int) < 128) = true := by simp; omega
  have d2 : decide (194 ≤ (s[0].toNat : Int)) = false := by simp; omega
  have d3 : decide ((s[0].toNat : Int) ≤ 223) = true := by simp; omega
  have d4 : decide (224 ≤ (s[0].toNat : Int)) = false := by simp; omega
  have d5 : decide ((s[0].toNat : Int) ≤ 239) = true := by simp; omega
  have d6 : decide (240 ≤ (s[0].toNat : Int)) = false := by simp; omega
  have d7 : decide ((s[0].toNat : Int) ≤ 244) = true := by simp; omega
  go_enter Tryd.func28, Tryd.ntmps28
  go_wp2
  go_ret2
  exact ⟨rfl, Below.refl _ _⟩
set_option maxRecDepth 1000000 in
set_option maxHeartbeats 1000000 in
theorem first_no1 (s : ByteArray) (w : World) (h : 0 < s.size) (hs : s.size ≤ 9223372036854775807) (h0 : 128 ≤ s[0].toNat) (h1 : s[0].toNat < 194) : Calls Tryd.prog 28 #[.string s] w fun e w' => FirstSaid s (0, 0) w e w' := by
  have hne : ((s.size : Int) == 0) = false := by rw [beq_eq_false_iff_ne]; omega
  have hb0 : (s[0].toNat : Int) < 256 := by have := UInt8.toNat_lt s[0]; omega
  have d1 : decide ((s[0].toNat : Int) < 128) = false := by simp; omega
  have d2 : decide (194 ≤ (s[0].toNat : Int)) = false := by simp; omega
  have d3 : decide ((s[0].toNat : Int) ≤ 223) = true := by simp; omega
  have d4 : decide (224 ≤ (s[0].toNat : Int)) = false := by simp; omega
  have d5 : decide ((s[0].toNat : Int) ≤ 239) = true := by simp; omega
  have d6 : decide (240 ≤ (s[0].toNat : Int)) = false := by simp; omega
  have d7 : decide ((s[0].toNat : Int) ≤ 244) = true := by simp; omega
  go_enter Tryd.func28, Tryd.ntmps28
  go_wp2
  go_ret2
  exact ⟨rfl, Below.refl _ _⟩
set_option maxRecDepth 1000000 in
set_option maxHeartbeats 1000000 in
theorem first_no2 (s : ByteArray) (w : World) (h : 0 < s.size) (hs : s.size ≤ 9223372036854775807) (h0 : 245 ≤ s[0].toNat) : Calls Tryd.prog 28 #[.string s] w fun e w' => FirstSaid s (0, 0) w e w' := by
  have hne : ((s.size : Int) == 0) = false := by rw [beq_eq_false_iff_ne]; omega
  have hb0 : (s[0].toNat : Int) < 256 := by have := UInt8.toNat_lt s[0]; omega
  have d1 : decide ((s[0].toNat : Int) < 128) = false := by simp; omega
  have d2 : decide (194 ≤ (s[0].toNat : Int)) = true := by simp; omega
  have d3 : decide ((s[0].toNat : Int) ≤ 223) = false := by simp; omega
  have d4 : decide (224 ≤ (s[0].toNat : Int)) = true := by simp; omega
  have d5 : decide ((s[0].toNat : Int) ≤ 239) = false := by simp; omega
  have d6 : decide (240 ≤ (s[0].toNat : Int)) = true := by simp; omega
  have d7 : decide ((s[0].toNat : Int) ≤ 244) = false := by simp; omega
  go_enter Tryd.func28, Tryd.ntmps28
  go_wp2
  go_ret2
  exact ⟨rfl, Below.refl _ _⟩
set_option maxRecDepth 1000000 in
set_option maxHeartbeats 1000000 in
theorem first_2 (s : ByteArray) (w : World) (h : 0 < s.size) (hs : s.size ≤ 9223372036854775807) (h0 : 194 ≤ s[0].toNat) (h0' : s[0].toNat ≤ 223) (t1 : tailS s 1 = true) (hl : 1 < s.size) : Calls Tryd.prog 28 #[.string s] w fun e w' => FirstSaid s (s[0].toNat % 32 * 64 + s[1].toNat % 64, 2) w e w' := by
  have hne : ((s.size : Int) == 0) = false := by rw [beq_eq_false_iff_ne]; omega
  have hb0 : (s[0].toNat : Int) < 256 := by have := UInt8.toNat_lt s[0]; omega
  have d1 : decide ((s[0].toNat : Int) < 128) = false := by simp; omega
  have d2 : decide (194 ≤ (s[0].toNat : Int)) = true := by simp; omega
  have d3 : decide ((s[0].toNat : Int) ≤ 223) = true := by simp; omega
  have d4 : decide (224 ≤ (s[0].toNat : Int)) = false := by simp; omega
  have d5 : decide ((s[0].toNat : Int) ≤ 239) = true := by simp; omega
  have d6 : decide (240 ≤ (s[0].toNat : Int)) = false := by simp; omega
  have d7 : decide ((s[0].toNat : Int) ≤ 244) = true := by simp; omega
  have HT1 : Hid (∀ W, Calls Tryd.prog 39 #[.string s, .int .i64 1] W fun e w' => e = .returned (.bool (tailS s 1)) ∧ W = w') := fun W => tail_any s 1 W (by omega) hs
  rw [t1] at HT1
  have HT2 : Hid (∀ _ : World, True) := fun _ => trivial
  have HT3 : Hid (∀ _ : World, True) := fun _ => trivial
  clear t1
  go_enter Tryd.func28, Tryd.ntmps28
  go_wp2_with (first | (go_at_call 39; first | (with_reducible refine (HT1.out _).mono ?_; (rintro e w' ⟨rfl, rfl⟩)) | (with_reducible refine (HT2.out _).mono ?_; (rintro e w' ⟨rfl, rfl⟩)) | (with_reducible refine (HT3.out _).mono ?_; (rintro e w' ⟨rfl, rfl⟩))))
  go_ret2
  refine ⟨?_, Below.refl _ _⟩
  have h := r2Z_eq s[0].toNat s[1].toNat (UInt8.toNat_lt _) (UInt8.toNat_lt _)
  unfold r2Z at h
  show Ending.returned (.tuple #[.int .i64 _, .int .i64 2]) = _
  rw [h]
  rfl
set_option maxRecDepth 1000000 in
set_option maxHeartbeats 1000000 in
theorem first_2n (s : ByteArray) (w : World) (h : 0 < s.size) (hs : s.size ≤ 9223372036854775807) (h0 : 194 ≤ s[0].toNat) (h0' : s[0].toNat ≤ 223) (t1 : tailS s 1 = false) : Calls Tryd.prog 28 #[.string s] w fun e w' => FirstSaid s (0, 0) w e w' := by
  have hne : ((s.size : Int) == 0) = false := by rw [beq_eq_false_iff_ne]; omega
  have hb0 : (s[0].toNat : Int) < 256 := by have := UInt8.toNat_lt s[0]; omega
  have d1 : decide ((s[0].toNat : Int) < 128) = false := by simp; omega
  have d2 : decide (194 ≤ (s[0].toNat : Int)) = true := by simp; omega
  have d3 : decide ((s[0].toNat : Int) ≤ 223) = true := by simp; omega
  have d4 : decide (224 ≤ (s[0].toNat : Int)) = false := by simp; omega
  have d5 : decide ((s[0].toNat : Int) ≤ 239) = true := by simp; omega
  have d6 : decide (240 ≤ (s[0].toNat : Int)) = false := by simp; omega
  have d7 : decide ((s[0].toNat : Int) ≤ 244) = true := by simp; omega
  have HT1 : Hid (∀ W, Calls Tryd.prog 39 #[.string s, .int .i64 1] W fun e w' => e = .returned (.bool (tailS s 1)) ∧ W = w') := fun W => tail_any s 1 W (by omega) hs
  rw [t1] at HT1
  have HT2 : Hid (∀ _ : World, True) := fun _ => trivial
  have HT3 : Hid (∀ _ : World, True) := fun _ => trivial
  clear t1
  go_enter Tryd.func28, Tryd.ntmps28
  go_wp2_with (first | (go_at_call 39; first | (with_reducible refine (HT1.out _).mono ?_; (rintro e w' ⟨rfl, rfl⟩)) | (with_reducible refine (HT2.out _).mono ?_; (rintro e w' ⟨rfl, rfl⟩)) | (with_reducible refine (HT3.out _).mono ?_; (rintro e w' ⟨rfl, rfl⟩))))
  go_ret2
  exact ⟨rfl, Below.refl _ _⟩
set_option maxRecDepth 1000000 in
set_option maxHeartbeats 1000000 in
theorem first_3n1 (s : ByteArray) (w : World) (h : 0 < s.size) (hs : s.size ≤ 9223372036854775807) (h0 : 224 ≤ s[0].toNat) (h0' : s[0].toNat ≤ 239) (t1 : tailS s 1 = false) : Calls Tryd.prog 28 #[.string s] w fun e w' => FirstSaid s (0, 0) w e w' := by
  have hne : ((s.size : Int) == 0) = false := by rw [beq_eq_false_iff_ne]; omega
  have hb0 : (s[0].toNat : Int) < 256 := by have := UInt8.toNat_lt s[0]; omega
  have d1 : decide ((s[0].toNat : Int) < 128) = false := by simp; omega
  have d2 : decide (194 ≤ (s[0].toNat : Int)) = true := by simp; omega
  have d3 : decide ((s[0].toNat : Int) ≤ 223) = false := by simp; omega
  have d4 : decide (224 ≤ (s[0].toNat : Int)) = true := by simp; omega
  have d5 : decide ((s[0].toNat : Int) ≤ 239) = true := by simp; omega
  have d6 : decide (240 ≤ (s[0].toNat : Int)) = false := by simp; omega
  have d7 : decide ((s[0].toNat : Int) ≤ 244) = true := by simp; omega
  have HT1 : Hid (∀ W, Calls Tryd.prog 39 #[.string s, .int .i64 1] W fun e w' => e = .returned (.bool (tailS s 1)) ∧ W = w') := fun W => tail_any s 1 W (by omega) hs
  rw [t1] at HT1
  have HT2 : Hid (∀ _ : World, True) := fun _ => trivial
  have HT3 : Hid (∀ _ : World, True) := fun _ => trivial
  clear t1
  go_enter Tryd.func28, Tryd.ntmps28
  go_wp2_with (first | (go_at_call 39; first | (with_reducible refine (HT1.out _).mono ?_; (rintro e w' ⟨rfl, rfl⟩)) | (with_reducible refine (HT2.out _).mono ?_; (rintro e w' ⟨rfl, rfl⟩)) | (with_reducible refine (HT3.out _).mono ?_; (rintro e w' ⟨rfl, rfl⟩))))
  go_ret2
  exact ⟨rfl, Below.refl _ _⟩
set_option maxRecDepth 1000000 in
set_option maxHeartbeats 1000000 in
theorem first_3n2 (s : ByteArray) (w : World) (h : 0 < s.size) (hs : s.size ≤ 9223372036854775807) (h0 : 224 ≤ s[0].toNat) (h0' : s[0].toNat ≤ 239) (t1 : tailS s 1 = true) (t2 : tailS s 2 = false) : Calls Tryd.prog 28 #[.string s] w fun e w' => FirstSaid s (0, 0) w e w' := by
  have hne : ((s.size : Int) == 0) = false := by rw [beq_eq_false_iff_ne]; omega
  have hb0 : (s[0].toNat : Int) < 256 := by have := UInt8.toNat_lt s[0]; omega
  have d1 : decide ((s[0].toNat : Int) < 128) = false := by simp; omega
  have d2 : decide (194 ≤ (s[0].toNat : Int)) = true := by simp; omega
  have d3 : decide ((s[0].toNat : Int) ≤ 223) = false := by simp; omega
  have d4 : decide (224 ≤ (s[0].toNat : Int)) = true := by simp; omega
  have d5 : decide ((s[0].toNat : Int) ≤ 239) = true := by simp; omega
  have d6 : decide (240 ≤ (s[0].toNat : Int)) = false := by simp; omega
  have d7 : decide ((s[0].toNat : Int) ≤ 244) = true := by simp; omega
  have HT1 : Hid (∀ W, Calls Tryd.prog 39 #[.string s, .int .i64 1] W fun e w' => e = .returned (.bool (tailS s 1)) ∧ W = w') := fun W => tail_any s 1 W (by omega) hs
  rw [t1] at HT1
  have HT2 : Hid (∀ W, Calls Tryd.prog 39 #[.string s, .int .i64 2] W fun e w' => e = .returned (.bool (tailS s 2)) ∧ W = w') := fun W => tail_any s 2 W (by omega) hs
  rw [t2] at HT2
  have HT3 : Hid (∀ _ : World, True) := fun _ => trivial
  clear t1 t2
  go_enter Tryd.func28, Tryd.ntmps28
  go_wp2_with (first | (go_at_call 39; first | (with_reducible refine (HT1.out _).mono ?_; (rintro e w' ⟨rfl, rfl⟩)) | (with_reducible refine (HT2.out _).mono ?_; (rintro e w' ⟨rfl, rfl⟩)) | (with_reducible refine (HT3.out _).mono ?_; (rintro e w' ⟨rfl, rfl⟩))))
  go_ret2
  exact ⟨rfl, Below.refl _ _⟩
set_option maxRecDepth 1000000 in
set_option maxHeartbeats 1000000 in
theorem first_3a (s : ByteArray) (w : World) (h : 0 < s.size) (hs : s.size ≤ 9223372036854775807) (h0 : 224 ≤ s[0].toNat) (h0' : s[0].toNat ≤ 239) (t1 : tailS s 1 = true) (t2 : tailS s 2 = true) (hl : 2 < s.size) (n : Nat) (hn : n = s[0].toNat % 16 * 4096 + s[1].toNat % 64 * 64 + s[2].toNat % 64) (hq : n < 2048) : Calls Tryd.prog 28 #[.string s] w fun e w' => FirstSaid s (0, 0) w e w' := by
  have hne : ((s.size : Int) == 0) = false := by rw [beq_eq_false_iff_ne]; omega
  have hb0 : (s[0].toNat : Int) < 256 := by have := UInt8.toNat_lt s[0]; omega
  have d1 : decide ((s[0].toNat : Int) < 128) = false := by simp; omega
  have d2 : decide (194 ≤ (s[0].toNat : Int)) = true := by simp; omega
  have d3 : decide ((s[0].toNat : Int) ≤ 223) = false := by simp; omega
  have d4 : decide (224 ≤ (s[0].toNat : Int)) = true := by simp; omega
  have d5 : decide ((s[0].toNat : Int) ≤ 239) = true := by simp; omega
  have d6 : decide (240 ≤ (s[0].toNat : Int)) = false := by simp; omega
  have d7 : decide ((s[0].toNat : Int) ≤ 244) = true := by simp; omega
  have HT1 : Hid (∀ W, Calls Tryd.prog 39 #[.string s, .int .i64 1] W fun e w' => e = .returned (.bool (tailS s 1)) ∧ W = w') := fun W => tail_any s 1 W (by omega) hs
  rw [t1] at HT1
  have HT2 : Hid (∀ W, Calls Tryd.prog 39 #[.string s, .int .i64 2] W fun e w' => e = .returned (.bool (tailS s 2)) ∧ W = w') := fun W => tail_any s 2 W (by omega) hs
  rw [t2] at HT2
  have HT3 : Hid (∀ _ : World, True) := fun _ => trivial
  have hR := r3Z_eq s[0].toNat s[1].toNat s[2].toNat (UInt8.toNat_lt _) (UInt8.toNat_lt _) (UInt8.toNat_lt _)
  rw [← hn] at hR
  unfold r3Z at hR
  have i1 : (1 : Int) < (s.size : Int) := by omega
  have i2 : (2 : Int) < (s.size : Int) := by omega
  clear t1 t2
  have q0 : decide (2048 ≤ (n : Int)) = false := by simp; omega
  have hn1 : (n : Int) ≤ 70000 := by omega
  clear hn
  go_enter Tryd.func28, Tryd.ntmps28
  go_wp2_with (first | (go_at_call 39; first | (with_reducible refine (HT1.out _).mono ?_; (rintro e w' ⟨rfl, rfl⟩)) | (with_reducible refine (HT2.out _).mono ?_; (rintro e w' ⟨rfl, rfl⟩)) | (with_reducible refine (HT3.out _).mono ?_; (rintro e w' ⟨rfl, rfl⟩))))
  go_quiet (fail)
  go_wp2
  go_ret2
  exact ⟨rfl, drewN_below _ _⟩
set_option maxRecDepth 1000000 in
set_option maxHeartbeats 1000000 in
theorem first_3b (s : ByteArray) (w : World) (h : 0 < s.size) (hs : s.size ≤ 9223372036854775807) (h0 : 224 ≤ s[0].toNat) (h0' : s[0].toNat ≤ 239) (t1 : tailS s 1 = true) (t2 : tailS s 2 = true) (hl : 2 < s.size) (n : Nat) (hn : n = s[0].toNat % 16 * 4096 + s[1].toNat % 64 * 64 + s[2].toNat % 64) (hq : 2048 ≤ n ∧ n < 55296) : Calls Tryd.prog 28 #[.string s] w fun e w' => FirstSaid s (n, 3) w e w' := by
  have hne : ((s.size : Int) == 0) = false := by rw [beq_eq_false_iff_ne]; omega
  have hb0 : (s[0].toNat : Int) < 256 := by have := UInt8.toNat_lt s[0]; omega
  have d1 : decide ((s[0].toNat : Int) < 128) = false := by simp; omega
  have d2 : decide (194 ≤ (s[0].toNat : Int)) = true := by simp; omega
  have d3 : decide ((s[0].toNat : Int) ≤ 223) = false := by simp; omega
  have d4 : decide (224 ≤ (s[0].toNat : Int)) = true := by simp; omega
  have d5 : decide ((s[0].toNat : Int) ≤ 239) = true := by simp; omega
  have d6 : decide (240 ≤ (s[0].toNat : Int)) = false := by simp; omega
  have d7 : decide ((s[0].toNat : Int) ≤ 244) = true := by simp; omega
  have HT1 : Hid (∀ W, Calls Tryd.prog 39 #[.string s, .int .i64 1] W fun e w' => e = .returned (.bool (tailS s 1)) ∧ W = w') := fun W => tail_any s 1 W (by omega) hs
  rw [t1] at HT1
  have HT2 : Hid (∀ W, Calls Tryd.prog 39 #[.string s, .int .i64 2] W fun e w' => e = .returned (.bool (tailS s 2)) ∧ W = w') := fun W => tail_any s 2 W (by omega) hs
  rw [t2] at HT2
  have HT3 : Hid (∀ _ : World, True) := fun _ => trivial
  have hR := r3Z_eq s[0].toNat s[1].toNat s[2].toNat (UInt8.toNat_lt _) (UInt8.toNat_lt _) (UInt8.toNat_lt _)
  rw [← hn] at hR
  unfold r3Z at hR
  have i1 : (1 : Int) < (s.size : Int) := by omega
  have i2 : (2 : Int) < (s.size : Int) := by omega
  clear t1 t2
  have q0 : decide (2048 ≤ (n : Int)) = true := by simp; omega
  have q1 : decide ((n : Int) < 55296) = true := by simp; omega
  have hn1 : (n : Int) ≤ 70000 := by omega
  clear hn
  go_enter Tryd.func28, Tryd.ntmps28
  go_wp2_with (first | (go_at_call 39; first | (with_reducible refine (HT1.out _).mono ?_; (rintro e w' ⟨rfl, rfl⟩)) | (with_reducible refine (HT2.out _).mono ?_; (rintro e w' ⟨rfl, rfl⟩)) | (with_reducible refine (HT3.out _).mono ?_; (rintro e w' ⟨rfl, rfl⟩))))
  go_quiet (fail)
  go_wp2
  go_ret2
  exact ⟨rfl, drewN_below _ _⟩
set_option maxRecDepth 1000000 in
set_option maxHeartbeats 1000000 in
theorem first_3c (s : ByteArray) (w : World) (h : 0 < s.size) (hs : s.size ≤ 9223372036854775807) (h0 : 224 ≤ s[0].toNat) (h0' : s[0].toNat ≤ 239) (t1 : tailS s 1 = true) (t2 : tailS s 2 = true) (hl : 2 < s.size) (n : Nat) (hn : n = s[0].toNat % 16 * 4096 + s[1].toNat % 64 * 64 + s[2].toNat % 64) (hq : 55296 ≤ n ∧ n ≤ 57343) : Calls Tryd.prog 28 #[.string s] w fun e w' => FirstSaid s (0, 0) w e w' := by
  have hne : ((s.size : Int) == 0) = false := by rw [beq_eq_false_iff_ne]; omega
  have hb0 : (s[0].toNat : Int) < 256 := by have := UInt8.toNat_lt s[0]; omega
  have d1 : decide ((s[0].toNat : Int) < 128) = false := by simp; omega
  have d2 : decide (194 ≤ (s[0].toNat : Int)) = true := by simp; omega
  have d3 : decide ((s[0].toNat : Int) ≤ 223) = false := by simp; omega
  have d4 : decide (224 ≤ (s[0].toNat : Int)) = true := by simp; omega
  have d5 : decide ((s[0].toNat : Int) ≤ 239) = true := by simp; omega
  have d6 : decide (240 ≤ (s[0].toNat : Int)) = false := by simp; omega
  have d7 : decide ((s[0].toNat : Int) ≤ 244) = true := by simp; omega
  have HT1 : Hid (∀ W, Calls Tryd.prog 39 #[.string s, .int .i64 1] W fun e w' => e = .returned (.bool (tailS s 1)) ∧ W = w') := fun W => tail_any s 1 W (by omega) hs
  rw [t1] at HT1
  have HT2 : Hid (∀ W, Calls Tryd.prog 39 #[.string s, .int .i64 2] W fun e w' => e = .returned (.bool (tailS s 2)) ∧ W = w') := fun W => tail_any s 2 W (by omega) hs
  rw [t2] at HT2
  have HT3 : Hid (∀ _ : World, True) := fun _ => trivial
  have hR := r3Z_eq s[0].toNat s[1].toNat s[2].toNat (UInt8.toNat_lt _) (UInt8.toNat_lt _) (UInt8.toNat_lt _)
  rw [← hn] at hR
  unfold r3Z at hR
  have i1 : (1 : Int) < (s.size : Int) := by omega
  have i2 : (2 : Int) < (s.size : Int) := by omega
  clear t1 t2
  have q0 : decide (2048 ≤ (n : Int)) = true := by simp; omega
  have q1 : decide ((n : Int) < 55296) = false := by simp; omega
  have q2 : decide (57343 < (n : Int)) = false := by simp; omega
  have hn1 : (n : Int) ≤ 70000 := by omega
  clear hn
  go_enter Tryd.func28, Tryd.ntmps28
  go_wp2_with (first | (go_at_call 39; first | (with_reducible refine (HT1.out _).mono ?_; (rintro e w' ⟨rfl, rfl⟩)) | (with_reducible refine (HT2.out _).mono ?_; (rintro e w' ⟨rfl, rfl⟩)) | (with_reducible refine (HT3.out _).mono ?_; (rintro e w' ⟨rfl, rfl⟩))))
  go_quiet (fail)
  go_wp2
  go_ret2
  exact ⟨rfl, drewN_below _ _⟩
set_option maxRecDepth 1000000 in
set_option maxHeartbeats 1000000 in
theorem first_3d (s : ByteArray) (w : World) (h : 0 < s.size) (hs : s.size ≤ 9223372036854775807) (h0 : 224 ≤ s[0].toNat) (h0' : s[0].toNat ≤ 239) (t1 : tailS s 1 = true) (t2 : tailS s 2 = true) (hl : 2 < s.size) (n : Nat) (hn : n = s[0].toNat % 16 * 4096 + s[1].toNat % 64 * 64 + s[2].toNat % 64) (hq : 57343 < n) : Calls Tryd.prog 28 #[.string s] w fun e w' => FirstSaid s (n, 3) w e w' := by
  have hne : ((s.size : Int) == 0) = false := by rw [beq_eq_false_iff_ne]; omega
  have hb0 : (s[0].toNat : Int) < 256 := by have := UInt8.toNat_lt s[0]; omega
  have d1 : decide ((s[0].toNat : Int) < 128) = false := by simp; omega
  have d2 : decide (194 ≤ (s[0].toNat : Int)) = true := by simp; omega
  have d3 : decide ((s[0].toNat : Int) ≤ 223) = false := by simp; omega
  have d4 : decide (224 ≤ (s[0].toNat : Int)) = true := by simp; omega
  have d5 : decide ((s[0].toNat : Int) ≤ 239) = true := by simp; omega
  have d6 : decide (240 ≤ (s[0].toNat : Int)) = false := by simp; omega
  have d7 : decide ((s[0].toNat : Int) ≤ 244) = true := by simp; omega
  have HT1 : Hid (∀ W, Calls Tryd.prog 39 #[.string s, .int .i64 1] W fun e w' => e = .returned (.bool (tailS s 1)) ∧ W = w') := fun W => tail_any s 1 W (by omega) hs
  rw [t1] at HT1
  have HT2 : Hid (∀ W, Calls Tryd.prog 39 #[.string s, .int .i64 2] W fun e w' => e = .returned (.bool (tailS s 2)) ∧ W = w') := fun W => tail_any s 2 W (by omega) hs
  rw [t2] at HT2
  have HT3 : Hid (∀ _ : World, True) := fun _ => trivial
  have hR := r3Z_eq s[0].toNat s[1].toNat s[2].toNat (UInt8.toNat_lt _) (UInt8.toNat_lt _) (UInt8.toNat_lt _)
  rw [← hn] at hR
  unfold r3Z at hR
  have i1 : (1 : Int) < (s.size : Int) := by omega
  have i2 : (2 : Int) < (s.size : Int) := by omega
  clear t1 t2
  have q0 : decide (2048 ≤ (n : Int)) = true := by simp; omega
  have q1 : decide ((n : Int) < 55296) = false := by simp; omega
  have q2 : decide (57343 < (n : Int)) = true := by simp; omega
  have hn1 : (n : Int) ≤ 70000 := by omega
  clear hn
  go_enter Tryd.func28, Tryd.ntmps28
  go_wp2_with (first | (go_at_call 39; first | (with_reducible refine (HT1.out _).mono ?_; (rintro e w' ⟨rfl, rfl⟩)) | (with_reducible refine (HT2.out _).mono ?_; (rintro e w' ⟨rfl, rfl⟩)) | (with_reducible refine (HT3.out _).mono ?_; (rintro e w' ⟨rfl, rfl⟩))))
  go_quiet (fail)
  go_wp2
  go_ret2
  exact ⟨rfl, drewN_below _ _⟩
set_option maxRecDepth 1000000 in
set_option maxHeartbeats 1000000 in
theorem first_4n1 (s : ByteArray) (w : World) (h : 0 < s.size) (hs : s.size ≤ 9223372036854775807) (h0 : 240 ≤ s[0].toNat) (h0' : s[0].toNat ≤ 244) (t1 : tailS s 1 = false) : Calls Tryd.prog 28 #[.string s] w fun e w' => FirstSaid s (0, 0) w e w' := by
  have hne : ((s.size : Int) == 0) = false := by rw [beq_eq_false_iff_ne]; omega
  have hb0 : (s[0].toNat : Int) < 256 := by have := UInt8.toNat_lt s[0]; omega
  have d1 : decide ((s[0].toNat : Int) < 128) = false := by simp; omega
  have d2 : decide (194 ≤ (s[0].toNat : Int)) = true := by simp; omega
  have d3 : decide ((s[0].toNat : Int) ≤ 223) = false := by simp; omega
  have d4 : decide (224 ≤ (s[0].toNat : Int)) = true := by simp; omega
  have d5 : decide ((s[0].toNat : Int) ≤ 239) = false := by simp; omega
  have d6 : decide (240 ≤ (s[0].toNat : Int)) = true := by simp; omega
  have d7 : decide ((s[0].toNat : Int) ≤ 244) = true := by simp; omega
  have HT1 : Hid (∀ W, Calls Tryd.prog 39 #[.string s, .int .i64 1] W fun e w' => e = .returned (.bool (tailS s 1)) ∧ W = w') := fun W => tail_any s 1 W (by omega) hs
  rw [t1] at HT1
  have HT2 : Hid (∀ _ : World, True) := fun _ => trivial
  have HT3 : Hid (∀ _ : World, True) := fun _ => trivial
  clear t1
  go_enter Tryd.func28, Tryd.ntmps28
  go_wp2_with (first | (go_at_call 39; first | (with_reducible refine (HT1.out _).mono ?_; (rintro e w' ⟨rfl, rfl⟩)) | (with_reducible refine (HT2.out _).mono ?_; (rintro e w' ⟨rfl, rfl⟩)) | (with_reducible refine (HT3.out _).mono ?_; (rintro e w' ⟨rfl, rfl⟩))))
  go_ret2
  exact ⟨rfl, Below.refl _ _⟩
set_option maxRecDepth 1000000 in
set_option maxHeartbeats 1000000 in
theorem first_4n2 (s : ByteArray) (w : World) (h : 0 < s.size) (hs : s.size ≤ 9223372036854775807) (h0 : 240 ≤ s[0].toNat) (h0' : s[0].toNat ≤ 244) (t1 : tailS s 1 = true) (t2 : tailS s 2 = false) : Calls Tryd.prog 28 #[.string s] w fun e w' => FirstSaid s (0, 0) w e w' := by
  have hne : ((s.size : Int) == 0) = false := by rw [beq_eq_false_iff_ne]; omega
  have hb0 : (s[0].toNat : Int) < 256 := by have := UInt8.toNat_lt s[0]; omega
  have d1 : decide ((s[0].toNat : Int) < 128) = false := by simp; omega
  have d2 : decide (194 ≤ (s[0].toNat : Int)) = true := by simp; omega
  have d3 : decide ((s[0].toNat : Int) ≤ 223) = false := by simp; omega
  have d4 : decide (224 ≤ (s[0].toNat : Int)) = true := by simp; omega
  have d5 : decide ((s[0].toNat : Int) ≤ 239) = false := by simp; omega
  have d6 : decide (240 ≤ (s[0].toNat : Int)) = true := by simp; omega
  have d7 : decide ((s[0].toNat : Int) ≤ 244) = true := by simp; omega
  have HT1 : Hid (∀ W, Calls Tryd.prog 39 #[.string s, .int .i64 1] W fun e w' => e = .returned (.bool (tailS s 1)) ∧ W = w') := fun W => tail_any s 1 W (by omega) hs
  rw [t1] at HT1
  have HT2 : Hid (∀ W, Calls Tryd.prog 39 #[.string s, .int .i64 2] W fun e w' => e = .returned (.bool (tailS s 2)) ∧ W = w') := fun W => tail_any s 2 W (by omega) hs
  rw [t2] at HT2
  have HT3 : Hid (∀ _ : World, True) := fun _ => trivial
  clear t1 t2
  go_enter Tryd.func28, Tryd.ntmps28
  go_wp2_with (first | (go_at_call 39; first | (with_reducible refine (HT1.out _).mono ?_; (rintro e w' ⟨rfl, rfl⟩)) | (with_reducible refine (HT2.out _).mono ?_; (rintro e w' ⟨rfl, rfl⟩)) | (with_reducible refine (HT3.out _).mono ?_; (rintro e w' ⟨rfl, rfl⟩))))
  go_ret2
  exact ⟨rfl, Below.refl _ _⟩
set_option maxRecDepth 1000000 in
set_option maxHeartbeats 1000000 in
theorem first_4n3 (s : ByteArray) (w : World) (h : 0 < s.size) (hs : s.size ≤ 9223372036854775807) (h0 : 240 ≤ s[0].toNat) (h0' : s[0].toNat ≤ 244) (t1 : tailS s 1 = true) (t2 : tailS s 2 = true) (t3 : tailS s 3 = false) : Calls Tryd.prog 28 #[.string s] w fun e w' => FirstSaid s (0, 0) w e w' := by
  have hne : ((s.size : Int) == 0) = false := by rw [beq_eq_false_iff_ne]; omega
  have hb0 : (s[0].toNat : Int) < 256 := by have := UInt8.toNat_lt s[0]; omega
  have d1 : decide ((s[0].toNat : Int) < 128) = false := by simp; omega
  have d2 : decide (194 ≤ (s[0].toNat : Int)) = true := by simp; omega
  have d3 : decide ((s[0].toNat : Int) ≤ 223) = false := by simp; omega
  have d4 : decide (224 ≤ (s[0].toNat : Int)) = true := by simp; omega
  have d5 : decide ((s[0].toNat : Int) ≤ 239) = false := by simp; omega
  have d6 : decide (240 ≤ (s[0].toNat : Int)) = true := by simp; omega
  have d7 : decide ((s[0].toNat : Int) ≤ 244) = true := by simp; omega
  have HT1 : Hid (∀ W, Calls Tryd.prog 39 #[.string s, .int .i64 1] W fun e w' => e = .returned (.bool (tailS s 1)) ∧ W = w') := fun W => tail_any s 1 W (by omega) hs
  rw [t1] at HT1
  have HT2 : Hid (∀ W, Calls Tryd.prog 39 #[.string s, .int .i64 2] W fun e w' => e = .returned (.bool (tailS s 2)) ∧ W = w') := fun W => tail_any s 2 W (by omega) hs
  rw [t2] at HT2
  have HT3 : Hid (∀ W, Calls Tryd.prog 39 #[.string s, .int .i64 3] W fun e w' => e = .returned (.bool (tailS s 3)) ∧ W = w') := fun W => tail_any s 3 W (by omega) hs
  rw [t3] at HT3
  clear t1 t2 t3
  go_enter Tryd.func28, Tryd.ntmps28
  go_wp2_with (first | (go_at_call 39; first | (with_reducible refine (HT1.out _).mono ?_; (rintro e w' ⟨rfl, rfl⟩)) | (with_reducible refine (HT2.out _).mono ?_; (rintro e w' ⟨rfl, rfl⟩)) | (with_reducible refine (HT3.out _).mono ?_; (rintro e w' ⟨rfl, rfl⟩))))
  go_ret2
  exact ⟨rfl, Below.refl _ _⟩
set_option maxRecDepth 1000000 in
set_option maxHeartbeats 1000000 in
theorem first_4a (s : ByteArray) (w : World) (h : 0 < s.size) (hs : s.size ≤ 9223372036854775807) (h0 : 240 ≤ s[0].toNat) (h0' : s[0].toNat ≤ 244) (t1 : tailS s 1 = true) (t2 : tailS s 2 = true) (t3 : tailS s 3 = true) (hl : 3 < s.size) (n : Nat) (hn : n = s[0].toNat % 8 * 262144 + s[1].toNat % 64 * 4096 + s[2].toNat % 64 * 64 + s[3].toNat % 64) (hq : n < 65536) : Calls Tryd.prog 28 #[.string s] w fun e w' => FirstSaid s (0, 0) w e w' := by
  have hne : ((s.size : Int) == 0) = false := by rw [beq_eq_false_iff_ne]; omega
  have hb0 : (s[0].toNat : Int) < 256 := by have := UInt8.toNat_lt s[0]; omega
  have d1 : decide ((s[0].toNat : Int) < 128) = false := by simp; omega
  have d2 : decide (194 ≤ (s[0].toNat : Int)) = true := by simp; omega
  have d3 : decide ((s[0].toNat : Int) ≤ 223) = false := by simp; omega
  have d4 : decide (224 ≤ (s[0].toNat : Int)) = true := by simp; omega
  have d5 : decide ((s[0].toNat : Int) ≤ 239) = false := by simp; omega
  have d6 : decide (240 ≤ (s[0].toNat : Int)) = true := by simp; omega
  have d7 : decide ((s[0].toNat : Int) ≤ 244) = true := by simp; omega
  have HT1 : Hid (∀ W, Calls Tryd.prog 39 #[.string s, .int .i64 1] W fun e w' => e = .returned (.bool (tailS s 1)) ∧ W = w') := fun W => tail_any s 1 W (by omega) hs
  rw [t1] at HT1
  have HT2 : Hid (∀ W, Calls Tryd.prog 39 #[.string s, .int .i64 2] W fun e w' => e = .returned (.bool (tailS s 2)) ∧ W = w') := fun W => tail_any s 2 W (by omega) hs
  rw [t2] at HT2
  have HT3 : Hid (∀ W, Calls Tryd.prog 39 #[.string s, .int .i64 3] W fun e w' => e = .returned (.bool (tailS s 3)) ∧ W = w') := fun W => tail_any s 3 W (by omega) hs
  rw [t3] at HT3
  have hR := r4Z_eq s[0].toNat s[1].toNat s[2].toNat s[3].toNat (UInt8.toNat_lt _) (UInt8.toNat_lt _) (UInt8.toNat_lt _) (UInt8.toNat_lt _)
  rw [← hn] at hR
  unfold r4Z at hR
  have i1 : (1 : Int) < (s.size : Int) := by omega
  have i2 : (2 : Int) < (s.size : Int) := by omega
  have i3 : (3 : Int) < (s.size : Int) := by omega
  clear t1 t2 t3
  have q0 : decide (65536 ≤ (n : Int)) = false := by simp; omega
  have hn1 : (n : Int) ≤ 2097152 := by omega
  clear hn
  go_enter Tryd.func28, Tryd.ntmps28
  go_wp2_with (first | (go_at_call 39; first | (with_reducible refine (HT1.out _).mono ?_; (rintro e w' ⟨rfl, rfl⟩)) | (with_reducible refine (HT2.out _).mono ?_; (rintro e w' ⟨rfl, rfl⟩)) | (with_reducible refine (HT3.out _).mono ?_; (rintro e w' ⟨rfl, rfl⟩))))
  go_quiet (fail)
  go_wp2
  go_ret2
  exact ⟨rfl, drewN_below _ _⟩
set_option maxRecDepth 1000000 in
set_option maxHeartbeats 1000000 in
theorem first_4b (s : ByteArray) (w : World) (h : 0 < s.size) (hs : s.size ≤ 9223372036854775807) (h0 : 240 ≤ s[0].toNat) (h0' : s[0].toNat ≤ 244) (t1 : tailS s 1 = true) (t2 : tailS s 2 = true) (t3 : tailS s 3 = true) (hl : 3 < s.size) (n : Nat) (hn : n = s[0].toNat % 8 * 262144 + s[1].toNat % 64 * 4096 + s[2].toNat % 64 * 64 + s[3].toNat % 64) (hq : 65536 ≤ n ∧ n ≤ 1114111) : Calls Tryd.prog 28 #[.string s] w fun e w' => FirstSaid s (n, 4) w e w' := by
  have hne : ((s.size : Int) == 0) = false := by rw [beq_eq_false_iff_ne]; omega
  have hb0 : (s[0].toNat : Int) < 256 := by have := UInt8.toNat_lt s[0]; omega
  have d1 : decide ((s[0].toNat : Int) < 128) = false := by simp; omega
  have d2 : decide (194 ≤ (s[0].toNat : Int)) = true := by simp; omega
  have d3 : decide ((s[0].toNat : Int) ≤ 223) = false := by simp; omega
  have d4 : decide (224 ≤ (s[0].toNat : Int)) = true := by simp; omega
  have d5 : decide ((s[0].toNat : Int) ≤ 239) = false := by simp; omega
  have d6 : decide (240 ≤ (s[0].toNat : Int)) = true := by simp; omega
  have d7 : decide ((s[0].toNat : Int) ≤ 244) = true := by simp; omega
  have HT1 : Hid (∀ W, Calls Tryd.prog 39 #[.string s, .int .i64 1] W fun e w' => e = .returned (.bool (tailS s 1)) ∧ W = w') := fun W => tail_any s 1 W (by omega) hs
  rw [t1] at HT1
  have HT2 : Hid (∀ W, Calls Tryd.prog 39 #[.string s, .int .i64 2] W fun e w' => e = .returned (.bool (tailS s 2)) ∧ W = w') := fun W => tail_any s 2 W (by omega) hs
  rw [t2] at HT2
  have HT3 : Hid (∀ W, Calls Tryd.prog 39 #[.string s, .int .i64 3] W fun e w' => e = .returned (.bool (tailS s 3)) ∧ W = w') := fun W => tail_any s 3 W (by omega) hs
  rw [t3] at HT3
  have hR := r4Z_eq s[0].toNat s[1].toNat s[2].toNat s[3].toNat (UInt8.toNat_lt _) (UInt8.toNat_lt _) (UInt8.toNat_lt _) (UInt8.toNat_lt _)
  rw [← hn] at hR
  unfold r4Z at hR
  have i1 : (1 : Int) < (s.size : Int) := by omega
  have i2 : (2 : Int) < (s.size : Int) := by omega
  have i3 : (3 : Int) < (s.size : Int) := by omega
  clear t1 t2 t3
  have q0 : decide (65536 ≤ (n : Int)) = true := by simp; omega
  have q1 : decide ((n : Int) ≤ 1114111) = true := by simp; omega
  have hn1 : (n : Int) ≤ 2097152 := by omega
  clear hn
  go_enter Tryd.func28, Tryd.ntmps28
  go_wp2_with (first | (go_at_call 39; first | (with_reducible refine (HT1.out _).mono ?_; (rintro e w' ⟨rfl, rfl⟩)) | (with_reducible refine (HT2.out _).mono ?_; (rintro e w' ⟨rfl, rfl⟩)) | (with_reducible refine (HT3.out _).mono ?_; (rintro e w' ⟨rfl, rfl⟩))))
  go_quiet (fail)
  go_wp2
  go_ret2
  exact ⟨rfl, drewN_below _ _⟩
set_option maxRecDepth 1000000 in
set_option maxHeartbeats 1000000 in
theorem first_4c (s : ByteArray) (w : World) (h : 0 < s.size) (hs : s.size ≤ 9223372036854775807) (h0 : 240 ≤ s[0].toNat) (h0' : s[0].toNat ≤ 244) (t1 : tailS s 1 = true) (t2 : tailS s 2 = true) (t3 : tailS s 3 = true) (hl : 3 < s.size) (n : Nat) (hn : n = s[0].toNat % 8 * 262144 + s[1].toNat % 64 * 4096 + s[2].toNat % 64 * 64 + s[3].toNat % 64) (hq : 1114111 < n) : Calls Tryd.prog 28 #[.string s] w fun e w' => FirstSaid s (0, 0) w e w' := by
  have hne : ((s.size : Int) == 0) = false := by rw [beq_eq_false_iff_ne]; omega
  have hb0 : (s[0].toNat : Int) < 256 := by have := UInt8.toNat_lt s[0]; omega
  have d1 : decide ((s[0].toNat : Int) < 128) = false := by simp; omega
  have d2 : decide (194 ≤ (s[0].toNat : Int)) = true := by simp; omega
  have d3 : decide ((s[0].toNat : Int) ≤ 223) = false := by simp; omega
  have d4 : decide (224 ≤ (s[0].toNat : Int)) = true := by simp; omega
  have d5 : decide ((s[0].toNat : Int) ≤ 239) = false := by simp; omega
  have d6 : decide (240 ≤ (s[0].toNat : Int)) = true := by simp; omega
  have d7 : decide ((s[0].toNat : Int) ≤ 244) = true := by simp; omega
  have HT1 : Hid (∀ W, Calls Tryd.prog 39 #[.string s, .int .i64 1] W fun e w' => e = .returned (.bool (tailS s 1)) ∧ W = w') := fun W => tail_any s 1 W (by omega) hs
  rw [t1] at HT1
  have HT2 : Hid (∀ W, Calls Tryd.prog 39 #[.string s, .int .i64 2] W fun e w' => e = .returned (.bool (tailS s 2)) ∧ W = w') := fun W => tail_any s 2 W (by omega) hs
  rw [t2] at HT2
  have HT3 : Hid (∀ W, Calls Tryd.prog 39 #[.string s, .int .i64 3] W fun e w' => e = .returned (.bool (tailS s 3)) ∧ W = w') := fun W => tail_any s 3 W (by omega) hs
  rw [t3] at HT3
  have hR := r4Z_eq s[0].toNat s[1].toNat s[2].toNat s[3].toNat (UInt8.toNat_lt _) (UInt8.toNat_lt _) (UInt8.toNat_lt _) (UInt8.toNat_lt _)
  rw [← hn] at hR
  unfold r4Z at hR
  have i1 : (1 : Int) < (s.size : Int) := by omega
  have i2 : (2 : Int) < (s.size : Int) := by omega
  have i3 : (3 : Int) < (s.size : Int) := by omega
  clear t1 t2 t3
  have q0 : decide (65536 ≤ (n : Int)) = true := by simp; omega
  have q1 : decide ((n : Int) ≤ 1114111) = false := by simp; omega
  have hn1 : (n : Int) ≤ 2097152 := by omega
  clear hn
  go_enter Tryd.func28, Tryd.ntmps28
  go_wp2_with (first | (go_at_call 39; first | (with_reducible refine (HT1.out _).mono ?_; (rintro e w' ⟨rfl, rfl⟩)) | (with_reducible refine (HT2.out _).mono ?_; (rintro e w' ⟨rfl, rfl⟩)) | (with_reducible refine (HT3.out _).mono ?_; (rintro e w' ⟨rfl, rfl⟩))))
  go_quiet (fail)
  go_wp2
  go_ret2
  exact ⟨rfl, drewN_below _ _⟩

theorem tailS_lt {s : ByteArray} {k : Nat} (h : tailS s k = true) : k < s.size := by
  unfold tailS tailN at h
  exact (of_decide_eq_true h).1
/-- THE CONTRACT OF First. -/
theorem first_any (s : ByteArray) (w : World) (hs : s.size ≤ 9223372036854775807) :
    Calls Tryd.prog 28 #[.string s] w fun e w' => FirstSaid s (firstL s.data.toList) w e w' := by
  rw [firstL_N]
  have hz := Lib.size_eq s
  rw [← hz]
  by_cases h : s.size = 0
  · rw [h]
    exact first_0 s w h
  have h : 0 < s.size := by omega
  have hb := UInt8.toNat_lt s[0]
  unfold firstN
  rw [if_neg (by omega), getD_at s 0 h]
  change Calls _ _ _ _ (fun e w' => FirstSaid s (if s[0].toNat < 128 then (s[0].toNat, 1) else if 194 ≤ s[0].toNat ∧ s[0].toNat ≤ 223 then (if tailS s 1 = true then _ else _) else if 224 ≤ s[0].toNat ∧ s[0].toNat ≤ 239 then (if tailS s 1 = true ∧ tailS s 2 = true ∧ _ then _ else _) else if 240 ≤ s[0].toNat ∧ s[0].toNat ≤ 244 then (if tailS s 1 = true ∧ tailS s 2 = true ∧ tailS s 3 = true ∧ _ then _ else _) else (0, 0)) w e w')
  by_cases a0 : s[0].toNat < 128
  · rw [if_pos a0]; exact first_1 s w h hs a0
  rw [if_neg a0]
  by_cases a1 : s[0].toNat < 194
  · rw [if_neg (by omega), if_neg (by omega), if_neg (by omega)]; exact first_no1 s w h hs (by omega) a1
  by_cases a2 : s[0].toNat ≤ 223
  · rw [if_pos ⟨by omega, a2⟩]
    by_cases t1 : tailS s 1 = true
    · rw [if_pos t1, getD_at s 1 (tailS_lt t1)]
      exact first_2 s w h hs (by omega) a2 t1 (tailS_lt t1)
    · rw [if_neg t1]
      exact first_2n s w h hs (by omega) a2 (by simpa using t1)
  rw [if_neg (by omega)]
  by_cases a3 : s[0].toNat ≤ 239
  · rw [if_pos ⟨by omega, a3⟩]
    by_cases t1 : tailS s 1 = true
    · by_cases t2 : tailS s 2 = true
      · have i1 := tailS_lt t1
        have i2 := tailS_lt t2
        rw [getD_at s 1 i1, getD_at s 2 i2]
        generalize hn : s[0].toNat % 16 * 4096 + s[1].toNat % 64 * 64 + s[2].toNat % 64 = n
        rcases Nat.lt_or_ge n 2048 with q | q
        · rw [if_neg (by omega)]; exact first_3a s w h hs (by omega) a3 t1 t2 (tailS_lt t2) n hn.symm q
        rcases Nat.lt_or_ge n 55296 with q2 | q2
        · rw [if_pos ⟨t1, t2, q, .inl q2⟩]; exact first_3b s w h hs (by omega) a3 t1 t2 (tailS_lt t2) n hn.symm ⟨q, q2⟩
        rcases Nat.lt_or_ge 57343 n with q3 | q3
        · rw [if_pos ⟨t1, t2, q, .inr q3⟩]; exact first_3d s w h hs (by omega) a3 t1 t2 (tailS_lt t2) n hn.symm q3
        · rw [if_neg (by omega)]; exact first_3c s w h hs (by omega) a3 t1 t2 (tailS_lt t2) n hn.symm ⟨q2, q3⟩
      · rw [if_neg (fun hh => t2 hh.2.1)]
        exact first_3n2 s w h hs (by omega) a3 t1 (by simpa using t2)
    · rw [if_neg (fun hh => t1 hh.1)]
      exact first_3n1 s w h hs (by omega) a3 (by simpa using t1)
  rw [if_neg (by omega)]
  by_cases a4 : s[0].toNat ≤ 244
  · rw [if_pos ⟨by omega, a4⟩]
    by_cases t1 : tailS s 1 = true
    · by_cases t2 : tailS s 2 = true
      · by_cases t3 : tailS s 3 = true
        · have i1 := tailS_lt t1
          have i2 := tailS_lt t2
          have i3 := tailS_lt t3
          rw [getD_at s 1 i1, getD_at s 2 i2, getD_at s 3 i3]
          generalize hn : s[0].toNat % 8 * 262144 + s[1].toNat % 64 * 4096 + s[2].toNat % 64 * 64 + s[3].toNat % 64 = n
          rcases Nat.lt_or_ge n 65536 with q | q
          · rw [if_neg (by omega)]; exact first_4a s w h hs (by omega) a4 t1 t2 t3 (tailS_lt t3) n hn.symm q
          rcases Nat.lt_or_ge 1114111 n with q2 | q2
          · rw [if_neg (by omega)]; exact first_4c s w h hs (by omega) a4 t1 t2 t3 (tailS_lt t3) n hn.symm q2
          · rw [if_pos ⟨t1, t2, t3, q, q2⟩]; exact first_4b s w h hs (by omega) a4 t1 t2 t3 (tailS_lt t3) n hn.symm ⟨q, q2⟩
        · rw [if_neg (fun hh => t3 hh.2.2.1)]
          exact first_4n3 s w h hs (by omega) a4 t1 t2 (by simpa using t3)
      · rw [if_neg (fun hh => t2 hh.2.1)]
        exact first_4n2 s w h hs (by omega) a4 t1 (by simpa using t2)
    · rw [if_neg (fun hh => t1 hh.1)]
      exact first_4n1 s w h hs (by omega) a4 (by simpa using t1)
  rw [if_neg (by omega)]
  exact first_no2 s w h hs (by omega)
end Go.Proofs.YtmiloedhhnknpaaDoor
