/- The walks of sums.Sum, the reference's Sum and Go, and the chapter's examples. Conditions: as each theorem says. -/
import Derived.Test.YticilbcdpiceaaaGo
namespace Go.Proofs.Yticilbcdpiceaaa
open Go.RowKit

theorem inv0 : inv 0 = 4294967295 := rfl
theorem tabAt (i : Nat) (h : i < 256) : (tabTo 256)[i]? = some (.int .u32 (tab i : Nat)) := by rw [tabTo_at 256 i h, if_pos h]
theorem tabLt (i : Nat) (h : i < 256) : tab i < 4294967296 := tab_lt i (by omega)

set_option maxRecDepth 100000 in
set_option maxHeartbeats 400000 in
theorem sum_any (s : ByteArray) (hs : s.size ≤ maxLen) (w : World) :
    Calls Try.prog 16 #[.string s] w fun e w' => e = .returned (.int .u32 (crc s.data.toList : Nat)) ∧ Below w.heap.size w w' := by
  go_enter Try.func16, Try.ntmps16
  go_wp2_with fail
  refine (table_any _).mono ?_
  rintro e w1 ⟨rfl, hb1⟩
  go_wp2_with fail
  refine (go_any (tabTo 256) tab tabAt tabLt 0 (by omega) s hs _).mono ?_
  rintro e w2 ⟨rfl, hb2⟩
  go_wp2
  go_ret
  exact ⟨rfl, hb1.trans (hb2.mono hb1.size)⟩

set_option maxRecDepth 100000 in
set_option maxHeartbeats 400000 in
theorem refsum_any (s : ByteArray) (hs : s.size ≤ maxLen) (w : World) :
    Calls Try.prog 17 #[.string s] w fun e w' => e = .returned (.int .u32 (crc s.data.toList : Nat)) ∧ w = w' := by
  unfold maxLen at hs
  go_enter Try.func17, Try.ntmps17
  go_wp2
  go_loop [3, 4] (fun v i => ∃ (k : Nat), k ≤ s.size ∧ i = .int .i64 k ∧ v = .int .u32 (goL tab 4294967295 (s.data.toList.take k) : Nat)) (fun _ i => s.size - (intOf i).toNat)
  case atStart => exact ⟨0, Nat.zero_le _, rfl, rfl⟩
  case round =>
    obtain ⟨k, hk, rfl, rfl⟩ := hrel
    have hz := goL_tab_lt 4294967295 (s.data.toList.take k) (by omega)
    by_cases hlt : k < s.size
    · have hsn := Lib.hid (goL_snoc tab 4294967295 s.data.toList k (by simpa using hlt))
      generalize goL tab 4294967295 (s.data.toList.take k) = z at *
      go_wp2_with fail
      have hc : s[k].toNat < 256 := s[k].toNat_lt
      have hg : s.data.toList[k]'(by simpa using hlt) = s[k] := rfl
      have hx : bits .xor .u32 (z : Int) ((s[k].toNat : Int) % 4294967296) = ((z ^^^ s[k].toNat : Nat) : Int) := by
        rw [show (s[k].toNat : Int) % 4294967296 = ((s[k].toNat : Nat) : Int) from by omega]
        exact u32_xor_nat z _ hz (by omega)
      rw [hx]
      refine (steps_any (z ^^^ s[k].toNat) 8 (by omega) (xor_lt32 _ _ hz (by omega)) _).mono ?_
      rintro e w' ⟨rfl, rfl⟩
      rw [hg, ← steps_upd] at hsn
      clear hx
      go_wp2
      go_round
      case rel => exact ⟨k + 1, by omega, by go_num, by rw [hsn.out]⟩
      case measure => simp [intOf]; omega
    · obtain rfl : k = s.size := by omega
      rw [List.take_of_length_le (by simp)] at hz ⊢
      have H2 := Lib.hid (notx' _ hz)
      go_wp2
      go_ret
      exact ⟨by simp [H2.out, crc], rfl⟩

theorem i64_xor_nat (a b : Nat) (ha : a < 4294967296) (hb : b < 4294967296) : bits .xor .i64 (a : Int) (b : Int) = ((a ^^^ b : Nat) : Int) := by
  have hl := xor_lt32 a b ha hb
  simp only [bits, BitVec.ofInt_natCast, BitVec.toNat_xor, BitVec.toNat_ofNat]
  have e : 2 ^ IntKind.i64.bits = 18446744073709551616 := rfl
  rw [e, Nat.mod_eq_of_lt (by omega), Nat.mod_eq_of_lt (by omega), IntKind.wrap_i64]
  omega
set_option maxRecDepth 100000 in
set_option maxHeartbeats 400000 in
theorem refgo_any (b off c0 : Nat) (t : Nat → Nat) (w : World) (hT : ∀ i, i < 256 → w.cell? ⟨b, off + i, none⟩ = some (.int .u32 (t i : Nat))) (ht : ∀ i, i < 256 → t i < 4294967296)
    (n : Nat) (hn : n < 4294967296) (s : ByteArray) (hs : s.size ≤ maxLen) :
    Calls Try.prog 19 #[.slice (some ⟨b, off, none⟩) 256 c0, .int .u32 n, .string s] w fun e w' => e = .returned (.int .u32 (inv (goL t (inv n) s.data.toList) : Nat)) ∧ w = w' := by
  unfold maxLen at hs
  have hT' := Lib.hid hT
  have ht' := Lib.hid ht
  have H := Lib.hid (notx' n hn)
  clear hT ht
  go_enter Try.func19, Try.ntmps19
  go_wp2
  rw [H.out]
  go_loop [7, 8] (fun v i => ∃ (k : Nat), k ≤ s.size ∧ i = .int .i64 k ∧ v = .int .u32 (goL t (inv n) (s.data.toList.take k) : Nat)) (fun _ i => s.size - (intOf i).toNat)
  case atStart => exact ⟨0, Nat.zero_le _, rfl, rfl⟩
  case round =>
    obtain ⟨k, hk, rfl, rfl⟩ := hrel
    have hz := goL_lt t ht'.out (s.data.toList.take k) (inv n) (inv_lt n)
    by_cases hlt : k < s.size
    · have hsn := Lib.hid (goL_snoc t (inv n) s.data.toList k (by simpa using hlt))
      generalize goL t (inv n) (s.data.toList.take k) = z at *
      have hc : s[k].toNat < 256 := s[k].toNat_lt
      have hg : s.data.toList[k]'(by simpa using hlt) = s[k] := rfl
      rw [hg] at hsn
      have hxl := xor256 (z % 256) _ (by omega) hc
      have hm : bits .and .u32 (z : Int) 255 = (z : Int) % 256 := by
        have := u32_and_nat z 255 hz (by omega)
        rw [nat_mask8] at this
        exact this
      have hx : bits .xor .i64 ((z : Int) % 256) (s[k].toNat : Int) = ((z % 256 ^^^ s[k].toNat : Nat) : Int) := i64_xor_nat (z % 256) _ (by omega) (by omega)
      have htl := ht'.out _ hxl
      have htc := hT'.out _ hxl
      have hr := Lib.hid (u32_xor_nat (z / 256) (t (z % 256 ^^^ s[k].toNat)) (by omega) htl)
      unfold upd at hsn
      generalize t (z % 256 ^^^ s[k].toNat) = tv at *
      generalize z % 256 ^^^ s[k].toNat = x at *
      go_wp2
      go_round
      case rel => exact ⟨k + 1, by omega, by go_num, by rw [hsn.out, ← hr.out]; rfl⟩
      case measure => simp [intOf]; omega
    · obtain rfl : k = s.size := by omega
      rw [List.take_of_length_le (by simp)] at hz ⊢
      have H2 := Lib.hid (notx' _ hz)
      go_wp2
      go_ret
      exact ⟨by simp [H2.out], rfl⟩
end Go.Proofs.Yticilbcdpiceaaa
