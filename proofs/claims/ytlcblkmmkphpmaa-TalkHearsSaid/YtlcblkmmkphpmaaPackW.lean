/- The walks of packed numbers and texts as they are written, the program's and the reference's. Conditions: as each theorem says. -/
import Derived.Test.YtlcblkmmkphpmaaKit
import Derived.Test.YtlcblkmmkphpmaaPackP
import Derived.Test.YtlcblkmmkphpmaaRows
namespace Go.Proofs.Ytlcblkmmkphpmaa
open Go.RowKit

theorem infoU8 : (Try.prog.info? 5).map (fun i => (i.zero, i.size, i.bytes)) = some (some (.int .u8 0), 1, 1) := by kernel_rfl
theorem infoStr : (Try.prog.info? 9).map (fun i => (i.zero, i.size, i.bytes)) = some (some (.string ⟨#[]⟩), 1, 16) := by kernel_rfl

theorem wrapU64 (n : Int) : IntKind.u64.wrap n = n % 18446744073709551616 := by simp [IntKind.wrap, IntKind.bits, IntKind.signed]
theorem ones64 (n : Nat) (h : n < 18446744073709551616) : n ^^^ 18446744073709551615 = 18446744073709551615 - n := by
  have e1 : (18446744073709551615 : Nat) = 2 ^ 64 - 1 := by decide
  have e2 : (18446744073709551615 : Nat) - n = 2 ^ 64 - (n + 1) := by
    have : (2 : Nat) ^ 64 = 18446744073709551616 := by decide
    omega
  rw [e2, e1]
  apply Nat.eq_of_testBit_eq
  intro i
  rw [Nat.testBit_xor, Nat.testBit_two_pow_sub_one, Nat.testBit_two_pow_sub_succ (by have : (2 : Nat) ^ 64 = 18446744073709551616 := by decide
                                                                                     omega)]
  by_cases hi : i < 64
  · simp [hi]
  · have h64 : 2 ^ 64 ≤ 2 ^ i := Nat.pow_le_pow_right (by omega) (by omega)
    have : n.testBit i = false := Nat.testBit_lt_two_pow (Nat.lt_of_lt_of_le (by have : (2 : Nat) ^ 64 = 18446744073709551616 := by decide
                                                                                 omega) h64)
    simp [hi, this]
theorem zigNeg (n : Int) (h1 : -9223372036854775808 ≤ n) (h : n < 0) : bits .xor .u64 (IntKind.u64.wrap (IntKind.u64.wrap n * 2)) 18446744073709551615 = ((zig n : Nat) : Int) ∧ bits .xor .u64 18446744073709551615 (IntKind.u64.wrap (IntKind.u64.wrap n * 2)) = ((zig n : Nat) : Int) := by
  have e : IntKind.u64.wrap (IntKind.u64.wrap n * 2) = (((2 * n + 18446744073709551616).toNat : Nat) : Int) := by
    rw [wrapU64, wrapU64]; omega
  have hz : zig n = 18446744073709551615 - (2 * n + 18446744073709551616).toNat := by
    unfold zig; rw [if_neg (by omega)]; omega
  rw [e, hz]
  have hl : (2 * n + 18446744073709551616).toNat < 18446744073709551616 := by omega
  constructor
  · have := u64_xor_nat (2 * n + 18446744073709551616).toNat 18446744073709551615 hl (by omega)
    rw [ones64 _ hl] at this
    exact this
  · have := u64_xor_nat 18446744073709551615 (2 * n + 18446744073709551616).toNat (by omega) hl
    rw [Nat.xor_comm, ones64 _ hl] at this
    exact this
theorem zigAll (n : Int) (h1 : -9223372036854775808 ≤ n) (h2 : n ≤ 9223372036854775807) : bits .xor .u64 (IntKind.u64.wrap (IntKind.u64.wrap n * 2)) (IntKind.u64.wrap (n / 9223372036854775808)) = ((zig n : Nat) : Int) := by
  by_cases h : n < 0
  · have e : IntKind.u64.wrap (n / 9223372036854775808) = 18446744073709551615 := by rw [wrapU64]; omega
    rw [e]
    exact (zigNeg n h1 h).1
  · have e : IntKind.u64.wrap (n / 9223372036854775808) = ((0 : Nat) : Int) := by rw [wrapU64]; omega
    have e2 : IntKind.u64.wrap (IntKind.u64.wrap n * 2) = (((2 * n).toNat : Nat) : Int) := by rw [wrapU64, wrapU64]; omega
    rw [e, e2, u64_xor_nat _ _ (by omega) (by omega), Nat.xor_zero]
    unfold zig
    rw [if_pos (by omega)]
theorem zigRef (n : Int) (h1 : -9223372036854775808 ≤ n) (h : n < 0) : bits .xor .u64 IntKind.u64.max (IntKind.u64.wrap (IntKind.u64.wrap n * 2)) = ((zig n : Nat) : Int) := by
  have e : IntKind.u64.max = 18446744073709551615 := by decide +kernel
  rw [e]
  exact (zigNeg n h1 h).2
theorem orHi (u : Nat) : bits .or .u8 ((u : Int) % 256) 128 = (((UInt8.ofNat (u % 128 + 128)).toNat : Nat) : Int) := by
  have h := u8_or_nat (u % 256) 128 (by omega) (by omega)
  have e : u % 256 ||| 128 = u % 128 + 128 := by
    have hx : u % 256 < 256 := by omega
    have key : ∀ x : Fin 256, x.val ||| 128 = x.val % 128 + 128 := by decide +kernel
    have := key ⟨u % 256, hx⟩
    simp only at this
    rw [this]
    omega
  rw [e] at h
  have hb : (UInt8.ofNat (u % 128 + 128)).toNat = u % 128 + 128 := by simp [UInt8.toNat_ofNat']; omega
  rw [hb]
  exact h

/-- What the loop of the writers has: the bytes laid, and the number that is left. -/
def NumInv (z u : Nat) (D : List UInt8) : Prop := vb z = D ++ vb u ∧ D.length ≤ 64 ∧ u * 2 ^ D.length < 18446744073709551616
theorem NumInv.start (z : Nat) (h : z < 18446744073709551616) : NumInv z z [] := ⟨rfl, by simp, by simpa using h⟩
theorem NumInv.step {z u : Nat} {D : List UInt8} (h : NumInv z u D) (hu : 128 ≤ u) : NumInv z (u / 128) (D ++ [UInt8.ofNat (u % 128 + 128)]) := by
  obtain ⟨h1, h2, h3⟩ := h
  refine ⟨by rw [h1, vb_hi u hu]; simp, ?_, ?_⟩
  · have hD : D.length < 64 := by
      rcases Nat.lt_or_ge D.length 64 with h | h
      · exact h
      · have hp : 2 ^ 64 ≤ 2 ^ D.length := Nat.pow_le_pow_right (by omega) h
        have e64 : (2 : Nat) ^ 64 = 18446744073709551616 := by decide
        have : 1 * 2 ^ 64 ≤ u * 2 ^ D.length := Nat.mul_le_mul (by omega) hp
        omega
    simp; omega
  · rw [List.length_append, List.length_singleton, Nat.pow_succ]
    have : u / 128 * (2 ^ D.length * 2) ≤ u * 2 ^ D.length := by
      rw [Nat.mul_comm (2 ^ D.length) 2, ← Nat.mul_assoc]
      exact Nat.mul_le_mul_right _ (by omega)
    omega
theorem NumInv.done {z u : Nat} {D : List UInt8} (h : NumInv z u D) (hu : u < 128) : vb z = D ++ [UInt8.ofNat u] := by rw [h.1, vb_lo u hu]
theorem NumInv.lt {z u : Nat} {D : List UInt8} (h : NumInv z u D) : u < 18446744073709551616 :=
  Nat.lt_of_le_of_lt (Nat.le_mul_of_pos_right u (Nat.two_pow_pos _)) h.2.2

set_option maxRecDepth 100000 in
set_option maxHeartbeats 400000 in
theorem num_any (n : Int) (h1 : -9223372036854775808 ≤ n) (h2 : n ≤ 9223372036854775807) (w : World) :
    Calls Try.prog 70 #[.int .i64 n] w fun e w' => e = .returned (.string (bs (numL n))) ∧ Below w.heap.size w w' := by
  obtain ⟨i5, hi, hz0, hz1, hz2⟩ := info_parts infoU8
  have HZ := Lib.hid (zigAll n h1 h2)
  have hzl := zig_lt n h1 h2
  go_enter Try.func70, Try.ntmps70
  go_wp2
  rw [HZ.out]
  clear HZ
  go_loopw [3, 4] (fun us v wr => ∃ (u : Nat) (D : List UInt8), us = .int .u64 u ∧ NumInv (zig n) u D ∧ wr.ownsRow w.heap.size 5 1 v D.length (byteCells D) ∧ Below w.heap.size w wr) (fun us _ _ => (intOf us).toNat)
  case atStart => exact ⟨zig n, [], rfl, NumInv.start _ hzl, World.ownsRow_nil _ _ _ _, Below.refl _ _⟩
  case round =>
    obtain ⟨u, D, rfl, hinv, hown, hb⟩ := hrel
    have hD := hinv.2.1
    have hul := hinv.lt
    have Hinv := Lib.hid hinv
    clear hinv
    by_cases h : u < 128
    · as_aux_lemma =>
      go_wp2_with (at_builtin; refine wpList_append_own _ rfl _ _ 79 rfl w.heap.size 5 i5 (.int .u8 0) 1 1 Try.underlying79 hi hz0 hz1 hz2 rfl (by decide) _ _ _ rfl (hown.alloc _) ⟨wr.heap.size, 0, none⟩ 1 1 [.int .u8 (u : Int)] rfl rfl (new_cells wr _ 5) (by intro x hx; simp [byteCells] at hx; subst hx; rfl) (by unfold maxLen; omega) (by omega) (by have := hb.size; simp; omega) ?_)
      intro v' w2 hown2 hgr2 _
      have hbe : ((UInt8.ofNat u).toNat : Int) = u := by simp [UInt8.toNat_ofNat']; omega
      have hown3 : w2.ownsRow w.heap.size 5 1 v' (D.length + 1) (byteCells (D ++ [UInt8.ofNat u])) := by
        rw [byteCells_append, show byteCells [UInt8.ofNat u] = [.int .u8 (u : Int)] by show [Value.int .u8 (((UInt8.ofNat u).toNat : Nat) : Int)] = _; rw [hbe]]
        exact hown2
      have hback := run_back_own (P := Try.prog) w2 79 9 5 Try.underlying79 Try.underlying5 Try.underlying9 _ v' _ _ hown3 (by omega)
      have hb2 := (hb.alloc hb.size (.cells #[.int .u8 (u : Int)] 5)).grown hgr2 (by have := hb.size; simp; omega) (own_base hown)
      rw [← show numL n = D ++ [UInt8.ofNat u] from Hinv.out.done h] at hback
      clear hown hown2 hown3 hgr2 hbe
      go_wp2
      go_ret
      exact ⟨rfl, hb2⟩
    · as_aux_lemma =>
      have hor := orHi u
      have hst := Lib.hid (Hinv.out.step (by omega))
      generalize UInt8.ofNat (u % 128 + 128) = b at *
      go_wp2_with (at_builtin; refine wpList_append_own _ rfl _ _ 79 rfl w.heap.size 5 i5 (.int .u8 0) 1 1 Try.underlying79 hi hz0 hz1 hz2 rfl (by decide) _ _ _ rfl (hown.alloc _) ⟨wr.heap.size, 0, none⟩ 1 1 (byteCells [b]) rfl rfl (new_cells wr _ 5) (by intro x hx; simp [byteCells] at hx; subst hx; rfl) (by unfold maxLen; omega) (by omega) (by have := hb.size; simp; omega) ?_)
      intro v' w2 hown2 hgr2 _
      have hown3 : w2.ownsRow w.heap.size 5 1 v' (D ++ [b]).length (byteCells (D ++ [b])) := by
        rw [byteCells_append]; simpa using hown2
      have hb2 := (hb.alloc hb.size (.cells (byteCells [b]).toArray 5)).grown hgr2 (by have := hb.size; simp; omega) (own_base hown)
      clear hown hown2 hgr2 hor
      go_wp2
      go_roundw
      case rel => exact ⟨u / 128, D ++ [b], by go_num, hst.out, hown3, hb2⟩
      case measure => simp [intOf]; omega

theorem andLo64 (u : Nat) (h : u < 18446744073709551616) : bits .and .u64 (u : Int) 127 = (u : Int) % 128 := by
  have := u64_and_nat u 127 h (by omega)
  rw [nat_mask7] at this
  have e : (127 : Int) = ((127 : Nat) : Int) := rfl
  rw [e, this]; omega
theorem orHi64 (u : Nat) : bits .or .u64 ((u : Int) % 128) 128 = (((UInt8.ofNat (u % 128 + 128)).toNat : Nat) : Int) := by
  have hx : u % 128 < 128 := by omega
  have key : ∀ x : Fin 128, x.val ||| 128 = x.val + 128 := by decide +kernel
  have e := key ⟨u % 128, hx⟩
  simp only at e
  have := u64_or_nat (u % 128) 128 (by omega) (by omega)
  rw [e] at this
  have hb : (UInt8.ofNat (u % 128 + 128)).toNat = u % 128 + 128 := by simp [UInt8.toNat_ofNat']; omega
  rw [hb, ← this]
  rfl
theorem zigPos (n : Int) (h : ¬ n < 0) : n * 2 = ((zig n : Nat) : Int) := by unfold zig; rw [if_pos (by omega)]; omega

set_option maxRecDepth 100000 in
set_option maxHeartbeats 400000 in
theorem refnum_neg (n : Int) (h1 : -9223372036854775808 ≤ n) (h2 : n ≤ 9223372036854775807) (hn : n < 0) (w : World) :
    Calls Try.prog 72 #[.int .i64 n] w fun e w' => e = .returned (.string (bs (numL n))) ∧ Below w.heap.size w w' := by
  obtain ⟨i5, hi, hz0, hz1, hz2⟩ := info_parts infoU8
  have HZ := Lib.hid (zigRef n h1 hn)
  have hzl := zig_lt n h1 h2
  go_enter Try.func72, Try.ntmps72
  go_wp2
  rw [HZ.out]
  clear HZ
  go_loopw [3, 4] (fun us v wr => ∃ (u : Nat) (D : List UInt8), us = .int .u64 u ∧ NumInv (zig n) u D ∧ wr.ownsRow w.heap.size 5 1 v D.length (byteCells D) ∧ Below w.heap.size w wr) (fun us _ _ => (intOf us).toNat)
  case atStart => exact ⟨zig n, [], rfl, NumInv.start _ hzl, World.ownsRow_nil _ _ _ _, Below.refl _ _⟩
  case round =>
    obtain ⟨u, D, rfl, hinv, hown, hb⟩ := hrel
    have hD := hinv.2.1
    have hul := hinv.lt
    have Hinv := Lib.hid hinv
    clear hinv
    by_cases h : u < 128
    · as_aux_lemma =>
      go_wp2_with (at_builtin; refine wpList_append_own _ rfl _ _ 79 rfl w.heap.size 5 i5 (.int .u8 0) 1 1 Try.underlying79 hi hz0 hz1 hz2 rfl (by decide) _ _ _ rfl (hown.alloc _) ⟨wr.heap.size, 0, none⟩ 1 1 [.int .u8 (u : Int)] rfl rfl (new_cells wr _ 5) (by intro x hx; simp [byteCells] at hx; subst hx; rfl) (by unfold maxLen; omega) (by omega) (by have := hb.size; simp; omega) ?_)
      intro v' w2 hown2 hgr2 _
      have hbe : ((UInt8.ofNat u).toNat : Int) = u := by simp [UInt8.toNat_ofNat']; omega
      have hown3 : w2.ownsRow w.heap.size 5 1 v' (D.length + 1) (byteCells (D ++ [UInt8.ofNat u])) := by
        rw [byteCells_append, show byteCells [UInt8.ofNat u] = [.int .u8 (u : Int)] by show [Value.int .u8 (((UInt8.ofNat u).toNat : Nat) : Int)] = _; rw [hbe]]
        exact hown2
      have hback := run_back_own (P := Try.prog) w2 79 9 5 Try.underlying79 Try.underlying5 Try.underlying9 _ v' _ _ hown3 (by omega)
      have hb2 := (hb.alloc hb.size (.cells #[.int .u8 (u : Int)] 5)).grown hgr2 (by have := hb.size; simp; omega) (own_base hown)
      rw [← show numL n = D ++ [UInt8.ofNat u] from Hinv.out.done h] at hback
      clear hown hown2 hown3 hgr2 hbe
      go_wp2
      go_ret
      exact ⟨rfl, hb2⟩
    · as_aux_lemma =>
      have hor := orHi64 u
      have hst := Lib.hid (Hinv.out.step (by omega))
      have ha := andLo64 u hul
      generalize UInt8.ofNat (u % 128 + 128) = b at *
      have hw : ((b.toNat : Nat) : Int) % 256 = b.toNat := by have := b.toNat_lt; omega
      go_wp2_with (at_builtin; refine wpList_append_own _ rfl _ _ 79 rfl w.heap.size 5 i5 (.int .u8 0) 1 1 Try.underlying79 hi hz0 hz1 hz2 rfl (by decide) _ _ _ rfl (hown.alloc _) ⟨wr.heap.size, 0, none⟩ 1 1 (byteCells [b]) rfl rfl (new_cells wr _ 5) (by intro x hx; simp [byteCells] at hx; subst hx; rfl) (by unfold maxLen; omega) (by omega) (by have := hb.size; simp; omega) ?_)
      intro v' w2 hown2 hgr2 _
      have hown3 : w2.ownsRow w.heap.size 5 1 v' (D ++ [b]).length (byteCells (D ++ [b])) := by
        rw [byteCells_append]; simpa using hown2
      have hb2 := (hb.alloc hb.size (.cells (byteCells [b]).toArray 5)).grown hgr2 (by have := hb.size; simp; omega) (own_base hown)
      clear hown hown2 hgr2 hor ha
      go_wp2
      go_roundw
      case rel => exact ⟨u / 128, D ++ [b], by go_num, hst.out, hown3, hb2⟩
      case measure => simp [intOf]; omega

set_option maxRecDepth 100000 in
set_option maxHeartbeats 400000 in
theorem refnum_pos (n : Int) (h1 : -9223372036854775808 ≤ n) (h2 : n ≤ 9223372036854775807) (hn : ¬ n < 0) (w : World) :
    Calls Try.prog 72 #[.int .i64 n] w fun e w' => e = .returned (.string (bs (numL n))) ∧ Below w.heap.size w w' := by
  obtain ⟨i5, hi, hz0, hz1, hz2⟩ := info_parts infoU8
  have HZ := Lib.hid (zigPos n hn)
  have hzl := zig_lt n h1 h2
  go_enter Try.func72, Try.ntmps72
  go_wp2
  rw [HZ.out]
  clear HZ
  go_loopw [3, 4] (fun us v wr => ∃ (u : Nat) (D : List UInt8), us = .int .u64 u ∧ NumInv (zig n) u D ∧ wr.ownsRow w.heap.size 5 1 v D.length (byteCells D) ∧ Below w.heap.size w wr) (fun us _ _ => (intOf us).toNat)
  case atStart => exact ⟨zig n, [], rfl, NumInv.start _ hzl, World.ownsRow_nil _ _ _ _, Below.refl _ _⟩
  case round =>
    obtain ⟨u, D, rfl, hinv, hown, hb⟩ := hrel
    have hD := hinv.2.1
    have hul := hinv.lt
    have Hinv := Lib.hid hinv
    clear hinv
    by_cases h : u < 128
    · as_aux_lemma =>
      go_wp2_with (at_builtin; refine wpList_append_own _ rfl _ _ 79 rfl w.heap.size 5 i5 (.int .u8 0) 1 1 Try.underlying79 hi hz0 hz1 hz2 rfl (by decide) _ _ _ rfl (hown.alloc _) ⟨wr.heap.size, 0, none⟩ 1 1 [.int .u8 (u : Int)] rfl rfl (new_cells wr _ 5) (by intro x hx; simp [byteCells] at hx; subst hx; rfl) (by unfold maxLen; omega) (by omega) (by have := hb.size; simp; omega) ?_)
      intro v' w2 hown2 hgr2 _
      have hbe : ((UInt8.ofNat u).toNat : Int) = u := by simp [UInt8.toNat_ofNat']; omega
      have hown3 : w2.ownsRow w.heap.size 5 1 v' (D.length + 1) (byteCells (D ++ [UInt8.ofNat u])) := by
        rw [byteCells_append, show byteCells [UInt8.ofNat u] = [.int .u8 (u : Int)] by show [Value.int .u8 (((UInt8.ofNat u).toNat : Nat) : Int)] = _; rw [hbe]]
        exact hown2
      have hback := run_back_own (P := Try.prog) w2 79 9 5 Try.underlying79 Try.underlying5 Try.underlying9 _ v' _ _ hown3 (by omega)
      have hb2 := (hb.alloc hb.size (.cells #[.int .u8 (u : Int)] 5)).grown hgr2 (by have := hb.size; simp; omega) (own_base hown)
      rw [← show numL n = D ++ [UInt8.ofNat u] from Hinv.out.done h] at hback
      clear hown hown2 hown3 hgr2 hbe
      go_wp2
      go_ret
      exact ⟨rfl, hb2⟩
    · as_aux_lemma =>
      have hor := orHi64 u
      have hst := Lib.hid (Hinv.out.step (by omega))
      have ha := andLo64 u hul
      generalize UInt8.ofNat (u % 128 + 128) = b at *
      have hw : ((b.toNat : Nat) : Int) % 256 = b.toNat := by have := b.toNat_lt; omega
      go_wp2_with (at_builtin; refine wpList_append_own _ rfl _ _ 79 rfl w.heap.size 5 i5 (.int .u8 0) 1 1 Try.underlying79 hi hz0 hz1 hz2 rfl (by decide) _ _ _ rfl (hown.alloc _) ⟨wr.heap.size, 0, none⟩ 1 1 (byteCells [b]) rfl rfl (new_cells wr _ 5) (by intro x hx; simp [byteCells] at hx; subst hx; rfl) (by unfold maxLen; omega) (by omega) (by have := hb.size; simp; omega) ?_)
      intro v' w2 hown2 hgr2 _
      have hown3 : w2.ownsRow w.heap.size 5 1 v' (D ++ [b]).length (byteCells (D ++ [b])) := by
        rw [byteCells_append]; simpa using hown2
      have hb2 := (hb.alloc hb.size (.cells (byteCells [b]).toArray 5)).grown hgr2 (by have := hb.size; simp; omega) (own_base hown)
      clear hown hown2 hgr2 hor ha
      go_wp2
      go_roundw
      case rel => exact ⟨u / 128, D ++ [b], by go_num, hst.out, hown3, hb2⟩
      case measure => simp [intOf]; omega

theorem refnum_any (n : Int) (h1 : -9223372036854775808 ≤ n) (h2 : n ≤ 9223372036854775807) (w : World) :
    Calls Try.prog 72 #[.int .i64 n] w fun e w' => e = .returned (.string (bs (numL n))) ∧ Below w.heap.size w w' := by
  by_cases h : n < 0
  · exact refnum_neg n h1 h2 h w
  · exact refnum_pos n h1 h2 h w
end Go.Proofs.Ytlcblkmmkphpmaa
