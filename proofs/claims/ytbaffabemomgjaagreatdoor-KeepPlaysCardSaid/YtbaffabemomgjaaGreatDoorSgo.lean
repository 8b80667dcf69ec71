/- The walk of sums.Go: a sum that goes on by bytes. Conditions: as the theorem says. -/
import Derived.Test.YtbaffabemomgjaaGreatDoorTab
namespace Go.Proofs.YtbaffabemomgjaaGreatDoor
open Go.RowKit

theorem ones_xor (n : Nat) (h : n < 4294967296) : 4294967295 ^^^ n = inv n := by
  have e1 : (4294967295 : Nat) = 2 ^ 32 - 1 := rfl
  have e2 : inv n = 2 ^ 32 - (n + 1) := by unfold inv; omega
  rw [e1, e2]
  apply Nat.eq_of_testBit_eq
  intro i
  rw [Nat.testBit_xor, Nat.testBit_two_pow_sub_one, Nat.testBit_two_pow_sub_succ (by omega)]
  by_cases hi : i < 32
  · simp [hi]
  · have : n.testBit i = false := Nat.testBit_lt_two_pow (Nat.lt_of_lt_of_le h (by have := Nat.pow_le_pow_right (n := 2) (by omega) (show 32 ≤ i by omega); omega))
    simp [hi, this]
theorem notx (n : Nat) (h : n < 4294967296) : bits .xor .u32 IntKind.u32.max (n : Int) = ((inv n : Nat) : Int) := by
  have e : IntKind.u32.max = ((4294967295 : Nat) : Int) := by decide +kernel
  rw [e, u32_xor_nat 4294967295 n (by omega) h, ones_xor n h]
theorem notx' (n : Nat) (h : n < 4294967296) : bits .xor .u32 (n : Int) 4294967295 = ((inv n : Nat) : Int) := by
  have := u32_xor_nat n 4294967295 h (by omega)
  rw [Nat.xor_comm, ones_xor n h] at this
  exact this
theorem inv_lt (n : Nat) : inv n < 4294967296 := by unfold inv; omega
theorem take_snoc (l : List UInt8) (k : Nat) (h : k < l.length) : l.take (k + 1) = l.take k ++ [l[k]] := by
  rw [List.take_succ_eq_append_getElem h]
theorem goL_snoc (t : Nat → Nat) (n : Nat) (l : List UInt8) (k : Nat) (h : k < l.length) : goL t n (l.take (k + 1)) = upd t (goL t n (l.take k)) (l[k]).toNat := by
  rw [take_snoc l k h, goL_append]; rfl

set_option maxRecDepth 100000 in
set_option maxHeartbeats 400000 in
theorem go_any (T : Array Value) (t : Nat → Nat) (hT : ∀ i, i < 256 → T[i]? = some (.int .u32 (t i : Nat))) (ht : ∀ i, i < 256 → t i < 4294967296)
    (n : Nat) (hn : n < 4294967296) (s : ByteArray) (hs : s.size ≤ maxLen) (w : World) :
    Calls Tryz.prog 69 #[.agg T, .int .u32 n, .string s] w fun e w' => e = .returned (.int .u32 (inv (goL t (inv n) s.data.toList) : Nat)) ∧ Below w.heap.size w w' := by
  have kc := fun w => Lib.run_convert_string_bytes (P := Tryz.prog) w 9 95 5 s Tryz.underlying9 Tryz.underlying95 Tryz.underlying5
  have hT' := Lib.hid hT
  have ht' := Lib.hid ht
  have H := Lib.hid (notx n hn)
  clear hT ht
  unfold maxLen at hs
  have hcells := fun j hj => Lib.bytesWorld_cell (w.alloc (.cells T 93)) 5 s j hj
  simp only [World.size_alloc] at hcells
  have htab : ∀ j, (Lib.bytesWorld (w.alloc (.cells T 93)) 5 s).cell? ⟨w.heap.size, j, none⟩ = T[j]? := fun j => by
    rw [Lib.bytesWorld_old _ _ _ _ (by simp), World.cell?_alloc_at _ _ _ _ rfl]
  have hb : Below w.heap.size w (Lib.bytesWorld (w.alloc (.cells T 93)) 5 s) := by
    refine ((Below.refl _ w).alloc (Nat.le_refl _) (.cells T 93)).trans ?_
    exact ⟨rfl, rfl, rfl, by rw [Lib.bytesWorld_size]; omega, fun k hk => Lib.bytesWorld_at_old _ _ _ _ (by simp; omega)⟩
  have hb' := Lib.hid hb
  have hc' := Lib.hid hcells
  have htb' := Lib.hid htab
  clear hcells htab hb
  go_enter Tryz.func69, Tryz.ntmps69
  go_wp2
  clear kc
  generalize Lib.bytesWorld (w.alloc (.cells T 93)) 5 s = W at *
  rw [H.out]
  go_loop [7, 15] (fun v i => ∃ (k : Nat), k ≤ s.size ∧ i = .int .i64 k ∧ v = .int .u32 (goL t (inv n) (s.data.toList.take k) : Nat)) (fun _ i => s.size - (intOf i).toNat)
  case atStart => exact ⟨0, Nat.zero_le _, rfl, rfl⟩
  case round =>
    obtain ⟨k, hk, rfl, rfl⟩ := hrel
    have hz := goL_lt t ht'.out (s.data.toList.take k) (inv n) (inv_lt n)
    by_cases hlt : k < s.size
    · have hsn := Lib.hid (goL_snoc t (inv n) s.data.toList k (by simpa using hlt))
      have hcell := hc'.out k hlt
      have hg : s.data.toList.getD k 0 = s.data.toList[k]'(by simpa using hlt) := by simp [List.getD, hlt]
      rw [hg] at hcell
      clear hg
      generalize goL t (inv n) (s.data.toList.take k) = z at *
      have hcb := (s.data.toList[k]'(by simpa using hlt)).toNat_lt
      generalize (s.data.toList[k]'(by simpa using hlt)).toNat = c at *
      have hx := u8_xor_nat (z % 256) c (by omega) hcb
      have hxl := xor256 (z % 256) c (by omega) hcb
      have htl := ht'.out _ hxl
      have htc := htb'.out (z % 256 ^^^ c)
      rw [hT'.out _ hxl] at htc
      have hr := Lib.hid (u32_xor_nat (z / 256) (t (z % 256 ^^^ c)) (by omega) htl)
      unfold upd at hsn
      generalize t (z % 256 ^^^ c) = tv at *
      generalize z % 256 ^^^ c = x at *
      simp only [Int.natCast_emod, Int.cast_ofNat_Int] at hx
      go_wp2
      go_round
      case rel => exact ⟨k + 1, by omega, by go_num, by rw [hsn.out, ← hr.out]; rfl⟩
      case measure => simp [intOf]; omega
    · obtain rfl : k = s.size := by omega
      rw [List.take_of_length_le (by simp)] at hz ⊢
      have H2 := Lib.hid (notx _ hz)
      go_wp2
      go_ret
      exact ⟨by simp [H2.out], hb'.out⟩
end Go.Proofs.YtbaffabemomgjaaGreatDoor
