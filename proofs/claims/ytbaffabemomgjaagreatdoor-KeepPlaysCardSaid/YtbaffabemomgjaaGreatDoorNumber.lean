/- The walk of the reference's number: four bytes as a number. Conditions: as the theorem says. -/
import Derived.Test.YtbaffabemomgjaaGreatDoorNext
namespace Go.Proofs.YtbaffabemomgjaaGreatDoor
open Go.RowKit

theorem i64_or_nat (a b : Nat) (ha : a < 4294967296) (hb : b < 4294967296) : bits .or .i64 (a : Int) (b : Int) = ((a ||| b : Nat) : Int) := by
  have hl : a ||| b < 4294967296 := Nat.or_lt_two_pow (n := 32) ha hb
  simp only [bits, BitVec.ofInt_natCast, BitVec.toNat_or, BitVec.toNat_ofNat]
  have e : 2 ^ IntKind.i64.bits = 18446744073709551616 := rfl
  rw [e, Nat.mod_eq_of_lt (by omega), Nat.mod_eq_of_lt (by omega), IntKind.wrap_i64]
  omega
theorem orstep64 (a b e : Nat) (ha : a < 256 ^ e) (hb : b < 256) (he : e ≤ 3) : bits .or .i64 (a : Int) ((b * 256 ^ e : Nat) : Int) = ((a + b * 256 ^ e : Nat) : Int) := by
  have h1 : 256 ^ e ≤ 256 ^ 3 := Nat.pow_le_pow_right (by omega) he
  have h2 : b * 256 ^ e ≤ 255 * 256 ^ e := Nat.mul_le_mul_right _ (by omega)
  rw [i64_or_nat a (b * 256 ^ e) (by omega) (by omega), Nat.or_comm]
  have e8 : (256 : Nat) ^ e = 2 ^ (8 * e) := by rw [Nat.pow_mul]
  rw [nat_join (8 * e) (b * 256 ^ e) a (by rw [e8]; exact Nat.mul_mod_left _ _) (by rw [← e8]; exact ha), Nat.add_comm]

theorem or4 (a b c d : Nat) (ha : a < 256) (hb : b < 256) (hc : c < 256) (hd : d < 256) :
    bits .or .i64 (bits .or .i64 (bits .or .i64 (a : Int) ((b : Int) * 256)) ((c : Int) * 65536)) ((d : Int) * 16777216) = ((a + b * 256 + c * 65536 + d * 16777216 : Nat) : Int) := by
  have e1 := orstep64 a b 1 (by omega) hb (by omega)
  have e2 := orstep64 (a + b * 256) c 2 (by omega) hc (by omega)
  have e3 := orstep64 (a + b * 256 + c * 65536) d 3 (by omega) hd (by omega)
  have f1 : ((b : Int) * 256) = ((b * 256 ^ 1 : Nat) : Int) := by omega
  have f2 : ((c : Int) * 65536) = ((c * 256 ^ 2 : Nat) : Int) := by omega
  have f3 : ((d : Int) * 16777216) = ((d * 256 ^ 3 : Nat) : Int) := by omega
  rw [f1, e1, f2, f3]
  exact (congrArg (fun x => bits .or .i64 x ((d * 256 ^ 3 : Nat) : Int)) e2).trans e3
theorem Below.drewN_refl (w : World) (n : Nat) : Below w.heap.size w (w.drewN n) := ⟨rfl, rfl, rfl, Nat.le_refl _, fun _ _ => rfl⟩
set_option maxRecDepth 100000 in
set_option maxHeartbeats 400000 in
theorem number_any (s : ByteArray) (hs : s.size ≤ maxLen) (h8 : 4 ≤ s.size) (w : World) :
    Calls Tryz.prog 56 #[.string s] w fun e w' => e = .returned (.int .i64 (acc (byteAt s.data.toList) 0 4 : Nat)) ∧ Below w.heap.size w w' := by
  unfold maxLen at hs
  have h0 : 0 < s.size := by omega
  have h1 : 1 < s.size := by omega
  have h2 : 2 < s.size := by omega
  have h3 : 3 < s.size := by omega
  have i0 : (0 : Int) < (s.size : Int) := by omega
  have i1 : (1 : Int) < (s.size : Int) := by omega
  have i2 : (2 : Int) < (s.size : Int) := by omega
  have i3 : (3 : Int) < (s.size : Int) := by omega
  have b0 := s[0].toNat_lt
  have b1 := s[1].toNat_lt
  have b2 := s[2].toNat_lt
  have b3 := s[3].toNat_lt
  go_enter Tryz.func56, Tryz.ntmps56
  go_wp2
  go_quiet (fail)
  go_wp2
  go_ret
  have g0 := byteAt_get s 0 h0
  have g1 := byteAt_get s 1 h1
  have g2 := byteAt_get s 2 h2
  have g3 := byteAt_get s 3 h3
  refine ⟨?_, Below.drewN_refl w nq⟩
  have e := or4 s[0].toNat s[1].toNat s[2].toNat s[3].toNat (by omega) (by omega) (by omega) (by omega)
  show Ending.returned (.int .i64 (bits .or .i64 (bits .or .i64 (bits .or .i64 (s[0].toNat : Int) ((s[1].toNat : Int) * 256)) ((s[2].toNat : Int) * 65536)) ((s[3].toNat : Int) * 16777216))) = _
  rw [e]
  simp only [acc, Nat.zero_add, g0, g1, g2, g3]
  congr 3
  omega
set_option maxHeartbeats 400000 in
theorem steps_any (n m : Nat) (hm : m ≤ 100) (hn : n < 4294967296) (w : World) :
    Calls Tryz.prog 71 #[.int .u32 n, .int .i64 m] w fun e w' => e = .returned (.int .u32 (steps n m)) ∧ w = w' := by
  go_enter Tryz.func71, Tryz.ntmps71
  go_wp2
  go_loop [0, 5] (fun n' i => ∃ (k : Nat), k ≤ m ∧ i = .int .i64 k ∧ n' = .int .u32 (steps n k)) (fun _ i => m - (intOf i).toNat)
  case atStart => exact ⟨0, Nat.zero_le _, rfl, rfl⟩
  case round =>
    obtain ⟨k, hk, rfl, rfl⟩ := hrel
    have hz := steps_lt n k hn
    have h1 := two1 (steps n k) hz
    have h2 := polyx (steps n k) hz
    have hs : Hid (steps n (k + 1) = step (steps n k)) := rfl
    by_cases hlt : k < m
    · generalize steps n k = z at *
      by_cases ho : z % 2 = 1
      · have ho' : (bits .and .u32 (z : Int) 1 == 1) = true := by rw [h1, ho]; rfl
        clear h1
        go_wp2
        go_round
        case rel => exact ⟨k + 1, by omega, by go_num, by rw [hs.out, step, if_pos ho]⟩
        case measure => simp [intOf]; omega
      · have ho' : (bits .and .u32 (z : Int) 1 == 1) = false := by rw [h1]; simp; omega
        clear h1
        go_wp2
        go_round
        case rel => exact ⟨k + 1, by omega, by go_num, by rw [hs.out, step, if_neg ho]; go_num⟩
        case measure => simp [intOf]; omega
    · clear h1 h2
      go_wp2
      go_ret
      have : k = m := by omega
      subst this
      exact ⟨by simp, rfl⟩


set_option maxRecDepth 100000 in
set_option maxHeartbeats 400000 in
theorem refsum_any (s : ByteArray) (hs : s.size ≤ maxLen) (w : World) :
    Calls Tryz.prog 53 #[.string s] w fun e w' => e = .returned (.int .u32 (crc s.data.toList : Nat)) ∧ w = w' := by
  unfold maxLen at hs
  go_enter Tryz.func53, Tryz.ntmps53
  go_wp2
  go_loop [3, 4] (fun v i => ∃ (k : Nat), k ≤ s.size ∧ i = .int .i64 k ∧ v = .int .u32 (goL tab 4294967295 (s.data.toList.take k) : Nat)) (fun _ i => s.size - (intOf i).toNat)
  case atStart => exact ⟨0, Nat.zero_le _, rfl, rfl⟩
  case round =>
    obtain ⟨k, hk, rfl, rfl⟩ := hrel
    have hz := goL_tab_lt 4294967295 (s.data.toList.take k) (by omega)
    by_cases hlt : k < s.size
    · have hsn := Lib.hid (goL_snoc tab 4294967295 s.data.toList k (by simpa using hlt))
      generalize goL tab 4294967295 (s.data.toList.take k) = z at *
      go_wp2_with fail
      have hc : s[k].toNat < 256 := s[k].toNat_lt
      have hg : s.data.toList[k]'(by simpa using hlt) = s[k] := rfl
      have hx : bits .xor .u32 (z : Int) ((s[k].toNat : Int) % 4294967296) = ((z ^^^ s[k].toNat : Nat) : Int) := by
        rw [show (s[k].toNat : Int) % 4294967296 = ((s[k].toNat : Nat) : Int) from by omega]
        exact u32_xor_nat z _ hz (by omega)
      rw [hx]
      refine (steps_any (z ^^^ s[k].toNat) 8 (by omega) (xor_lt32 _ _ hz (by omega)) _).mono ?_
      rintro e w' ⟨rfl, rfl⟩
      rw [hg, ← steps_upd] at hsn
      clear hx
      go_wp2
      go_round
      case rel => exact ⟨k + 1, by omega, by go_num, by rw [hsn.out]⟩
      case measure => simp [intOf]; omega
    · obtain rfl : k = s.size := by omega
      rw [List.take_of_length_le (by simp)] at hz ⊢
      have H2 := Lib.hid (notx' _ hz)
      go_wp2
      go_ret
      exact ⟨by simp [H2.out, crc], rfl⟩

set_option maxRecDepth 100000 in
set_option maxHeartbeats 400000 in
theorem four_any (n : Nat) (hn : n < 4294967296) (w : World) :
    Calls Tryz.prog 52 #[.int .u32 n] w fun e w' => e = .returned (.string ⟨(le4 n).toArray⟩) ∧ Below w.heap.size w w' := by
  have hback : (convert 95 9 (.slice (some ⟨w.heap.size, 0, none⟩) 4 4)).run Tryz.prog (w.alloc (.cells (byteCells (le4 n)).toArray 5)) = .ok (.string ⟨(le4 n).toArray⟩) (w.alloc (.cells (byteCells (le4 n)).toArray 5)) :=
    run_convert_bytes_back (P := Tryz.prog) _ 95 9 5 ⟨w.heap.size, 0, none⟩ 4 (le4 n) Tryz.underlying95 Tryz.underlying5 Tryz.underlying9 (fun j hj => new_cells w _ 5 j _ (by simp [byteCells, hj]))
  rw [byteCells_le4 n hn] at hback
  go_enter Tryz.func52, Tryz.ntmps52
  go_wp2
  go_ret
  exact ⟨rfl, (Below.refl _ w).alloc (Nat.le_refl _) _⟩

end Go.Proofs.YtbaffabemomgjaaGreatDoor
