/- The walk of frame.read: the head that bytes begin with. Conditions: as the theorem says. -/
import Derived.Test.YtbaffabemomgjaaGreatDoorFrm
import Derived.BigRegion
namespace Go.Proofs.YtbaffabemomgjaaGreatDoor
open Go.RowKit

/-- The number that k bytes from o on are, the lowest first. -/
def acc (B : Nat → Nat) (o : Nat) : Nat → Nat
  | 0 => 0
  | k + 1 => acc B o k + B (o + k) * 256 ^ k
/-- The bytes of a text. -/
def byteAt (l : List UInt8) (j : Nat) : Nat := (l.getD j 0).toNat
theorem byteAt_lt (l : List UInt8) (j : Nat) : byteAt l j < 256 := (l.getD j 0).toNat_lt
theorem acc_lt (B : Nat → Nat) (hB : ∀ j, B j < 256) (o k : Nat) : acc B o k < 256 ^ k := by
  induction k with
  | zero => simp [acc]
  | succ k ih =>
    have h1 := hB (o + k)
    have h2 : B (o + k) * 256 ^ k ≤ 255 * 256 ^ k := Nat.mul_le_mul_right _ (by omega)
    simp only [acc, Nat.pow_succ]
    omega

theorem orstep (a b e : Nat) (ha : a < 256 ^ e) (hb : b < 256) (he : e ≤ 3) : bits .or .u32 (a : Int) ((b * 256 ^ e : Nat) : Int) = ((a + b * 256 ^ e : Nat) : Int) := by
  have h1 : 256 ^ e ≤ 256 ^ 3 := Nat.pow_le_pow_right (by omega) he
  have h2 : b * 256 ^ e ≤ 255 * 256 ^ e := Nat.mul_le_mul_right _ (by omega)
  rw [u32_or_nat a (b * 256 ^ e) (by omega) (by omega), Nat.or_comm]
  have e8 : (256 : Nat) ^ e = 2 ^ (8 * e) := by rw [Nat.pow_mul]
  rw [nat_join (8 * e) (b * 256 ^ e) a (by rw [e8]; exact Nat.mul_mod_left _ _) (by rw [← e8]; exact ha), Nat.add_comm]
/-- What one byte does to the head's two numbers. -/
theorem read_step0 (B : Nat → Nat) (hB : ∀ j, B j < 256) (w wr : World) (k : Nat) (hk : k < 4) (y : Int) (hy : y = ((B k * 256 ^ k : Nat) : Int)) (h0 : wr.heap[w.heap.size]? = some (.cells #[.int .i64 0, .int .u32 0] 78 (0, 0)))
    (hL : wr.heap[w.heap.size + 1]? = some (.cells #[.int .u32 (acc B 0 k : Nat), .int .u32 0] 99 (0, 0))) (hb : Below w.heap.size w wr) :
    (wr.setCell ⟨w.heap.size + 1, 0, none⟩ (.int .u32 (bits .or .u32 (acc B 0 k : Nat) y))).drew.heap[w.heap.size]? = some (.cells #[.int .i64 0, .int .u32 0] 78 (0, 0)) ∧
    (wr.setCell ⟨w.heap.size + 1, 0, none⟩ (.int .u32 (bits .or .u32 (acc B 0 k : Nat) y))).drew.heap[w.heap.size + 1]? = some (.cells #[.int .u32 (acc B 0 (k + 1) : Nat), .int .u32 0] 99 (0, 0)) ∧
    Below w.heap.size w (wr.setCell ⟨w.heap.size + 1, 0, none⟩ (.int .u32 (bits .or .u32 (acc B 0 k : Nat) y))).drew := by
  subst hy
  rw [orstep _ _ k (acc_lt B hB 0 k) (hB k) (by omega)]
  refine ⟨?_, ?_, (hb.setCell (by simp) _).drew⟩
  · rw [heap_drew, heap_setCell_other _ _ _ _ (by simp)]; exact h0
  · rw [heap_drew, heap_setCell_same _ _ _ _ _ _ hL]; simp [acc]
theorem read_step1 (B : Nat → Nat) (hB : ∀ j, B j < 256) (w wr : World) (k : Nat) (hk : k < 4) (x : Nat) (y : Int) (hy : y = ((B (4 + k) * 256 ^ k : Nat) : Int)) (h0 : wr.heap[w.heap.size]? = some (.cells #[.int .i64 0, .int .u32 0] 78 (0, 0)))
    (hL : wr.heap[w.heap.size + 1]? = some (.cells #[.int .u32 x, .int .u32 (acc B 4 k : Nat)] 99 (0, 0))) (hb : Below w.heap.size w wr) :
    (wr.setCell ⟨w.heap.size + 1, 1, none⟩ (.int .u32 (bits .or .u32 (acc B 4 k : Nat) y))).drew.heap[w.heap.size]? = some (.cells #[.int .i64 0, .int .u32 0] 78 (0, 0)) ∧
    (wr.setCell ⟨w.heap.size + 1, 1, none⟩ (.int .u32 (bits .or .u32 (acc B 4 k : Nat) y))).drew.heap[w.heap.size + 1]? = some (.cells #[.int .u32 x, .int .u32 (acc B 4 (k + 1) : Nat)] 99 (0, 0)) ∧
    Below w.heap.size w (wr.setCell ⟨w.heap.size + 1, 1, none⟩ (.int .u32 (bits .or .u32 (acc B 4 k : Nat) y))).drew := by
  subst hy
  rw [orstep _ _ k (acc_lt B hB 4 k) (hB _) (by omega)]
  refine ⟨?_, ?_, (hb.setCell (by simp) _).drew⟩
  · rw [heap_drew, heap_setCell_other _ _ _ _ (by simp)]; exact h0
  · rw [heap_drew, heap_setCell_same _ _ _ _ _ _ hL]; simp [acc]
theorem byteAt_get (s : ByteArray) (k : Nat) (h : k < s.size) : byteAt s.data.toList k = s[k].toNat := by
  unfold byteAt
  rw [getD_at' _ _ (show k < s.data.toList.length from h)]
  rfl

set_option maxRecDepth 100000 in
set_option maxHeartbeats 400000 in
theorem hread_any (s : ByteArray) (hs : s.size ≤ maxLen) (h8 : 8 ≤ s.size) (w : World) :
    Calls Tryz.prog 55 #[.string s] w fun e w' => e = .returned (.agg #[.int .i64 (acc (byteAt s.data.toList) 0 4 : Nat), .int .u32 (acc (byteAt s.data.toList) 4 4 : Nat)]) ∧ Below w.heap.size w w' := by
  unfold maxLen at hs
  go_enter Tryz.func55, Tryz.ntmps55
  go_wp2
  go_loopw [5] (fun i wr => ∃ k : Nat, k ≤ 8 ∧ i = .int .i64 k ∧ wr.heap[w.heap.size]? = some (.cells #[.int .i64 0, .int .u32 0] 78 (0, 0)) ∧
     wr.heap[w.heap.size + 1]? = some (.cells #[.int .u32 (acc (byteAt s.data.toList) 0 (min k 4) : Nat), .int .u32 (acc (byteAt s.data.toList) 4 (k - 4) : Nat)] 99 (0, 0)) ∧ Below w.heap.size w wr) (fun i _ => 8 - (intOf i).toNat)
  case atStart => 
    refine ⟨0, by omega, rfl, ?_, ?_, ?_⟩
    · exact heap_alloc2_old _ _ _
    · exact heap_alloc2_new _ _ _
    · exact ((Below.refl _ w).alloc (Nat.le_refl _) _).alloc (by simp) _
  case round =>
    obtain ⟨k, hk, rfl, hB, hL, hb⟩ := hrel
    by_cases h : k < 8
    · have c0 := cell_of_row wr (w.heap.size + 1) 0 _ _ _ hL
      have c1 := cell_of_row wr (w.heap.size + 1) 1 _ _ _ hL
      have f0 := frozen_of_row wr (w.heap.size + 1) 0 _ _ hL
      have f1 := frozen_of_row wr (w.heap.size + 1) 1 _ _ hL
      simp only [List.getElem?_toArray, List.getElem?_cons_zero, List.getElem?_cons_succ] at c0 c1
      have w0 : IntKind.i64.wrap 0 = 0 := by decide
      have w1 : IntKind.i64.wrap 1 = 1 := by decide
      have w2 : IntKind.i64.wrap 2 = 2 := by decide
      have w3 : IntKind.i64.wrap 3 = 3 := by decide
      have w8 : IntKind.i64.wrap 8 = 8 := by decide
      have w16 : IntKind.i64.wrap 16 = 16 := by decide
      have w24 : IntKind.i64.wrap 24 = 24 := by decide
      rcases (show k = 0 ∨ k = 1 ∨ k = 2 ∨ k = 3 ∨ k = 4 ∨ k = 5 ∨ k = 6 ∨ k = 7 by omega) with rfl | rfl | rfl | rfl | rfl | rfl | rfl | rfl
      case inl =>
        have hx : 0 < s.size := by omega
        have hx2 : (0 : Int) < (s.size : Int) := by omega
        have hg := byteAt_get s 0 hx
        have hlt := byteAt_lt s.data.toList 0
        push_cast at *
        have hy : ∀ y : Int, y = (s[0].toNat : Int) * 1 → y = ((byteAt s.data.toList 0 * 256 ^ 0 : Nat) : Int) := fun y h => by rw [h, show byteAt s.data.toList 0 = s[0].toNat from hg]; omega
        have hY := Lib.hid hy
        clear hy
        rw [hg] at hlt
        have hG := Lib.hid hg
        clear hg
        go_wp2
        go_region
        go_wp2
        go_roundw
        case rel => exact ⟨1, by omega, rfl, read_step0 _ (byteAt_lt _) w wr 0 (by omega) _ (hY.out _ (by omega)) hB hL hb⟩
        case measure => simp [intOf]
      case inr.inl =>
        have hx : 1 < s.size := by omega
        have hx2 : (1 : Int) < (s.size : Int) := by omega
        have hg := byteAt_get s 1 hx
        have hlt := byteAt_lt s.data.toList 1
        push_cast at *
        have hy : ∀ y : Int, y = (s[1].toNat : Int) * 256 → y = ((byteAt s.data.toList 1 * 256 ^ 1 : Nat) : Int) := fun y h => by rw [h, show byteAt s.data.toList 1 = s[1].toNat from hg]; omega
        have hY := Lib.hid hy
        clear hy
        rw [hg] at hlt
        have hG := Lib.hid hg
        clear hg
        go_wp2
        go_region
        go_wp2
        go_roundw
        case rel => exact ⟨2, by omega, rfl, read_step0 _ (byteAt_lt _) w wr 1 (by omega) _ (hY.out _ (by omega)) hB hL hb⟩
        case measure => simp [intOf]
      case inr.inr.inl =>
        have hx : 2 < s.size := by omega
        have hx2 : (2 : Int) < (s.size : Int) := by omega
        have hg := byteAt_get s 2 hx
        have hlt := byteAt_lt s.data.toList 2
        push_cast at *
        have hy : ∀ y : Int, y = (s[2].toNat : Int) * 65536 → y = ((byteAt s.data.toList 2 * 256 ^ 2 : Nat) : Int) := fun y h => by rw [h, show byteAt s.data.toList 2 = s[2].toNat from hg]; omega
        have hY := Lib.hid hy
        clear hy
        rw [hg] at hlt
        have hG := Lib.hid hg
        clear hg
        go_wp2
        go_region
        go_wp2
        go_roundw
        case rel => exact ⟨3, by omega, rfl, read_step0 _ (byteAt_lt _) w wr 2 (by omega) _ (hY.out _ (by omega)) hB hL hb⟩
        case measure => simp [intOf]
      case inr.inr.inr.inl =>
        have hx : 3 < s.size := by omega
        have hx2 : (3 : Int) < (s.size : Int) := by omega
        have hg := byteAt_get s 3 hx
        have hlt := byteAt_lt s.data.toList 3
        push_cast at *
        have hy : ∀ y : Int, y = (s[3].toNat : Int) * 16777216 → y = ((byteAt s.data.toList 3 * 256 ^ 3 : Nat) : Int) := fun y h => by rw [h, show byteAt s.data.toList 3 = s[3].toNat from hg]; omega
        have hY := Lib.hid hy
        clear hy
        rw [hg] at hlt
        have hG := Lib.hid hg
        clear hg
        go_wp2
        go_region
        go_wp2
        go_roundw
        case rel => exact ⟨4, by omega, rfl, read_step0 _ (byteAt_lt _) w wr 3 (by omega) _ (hY.out _ (by omega)) hB hL hb⟩
        case measure => simp [intOf]
      case inr.inr.inr.inr.inl =>
        have hx : 4 < s.size := by omega
        have hx2 : (4 : Int) < (s.size : Int) := by omega
        have hg := byteAt_get s 4 hx
        have hlt := byteAt_lt s.data.toList 4
        push_cast at *
        have hy : ∀ y : Int, y = (s[4].toNat : Int) * 1 → y = ((byteAt s.data.toList (4 + 0) * 256 ^ 0 : Nat) : Int) := fun y h => by rw [h, show byteAt s.data.toList (4 + 0) = s[4].toNat from hg]; omega
        have hY := Lib.hid hy
        clear hy
        rw [hg] at hlt
        have hG := Lib.hid hg
        clear hg
        go_wp2
        go_region
        go_wp2
        go_roundw
        case rel => exact ⟨5, by omega, rfl, read_step1 _ (byteAt_lt _) w wr 0 (by omega) _ _ (hY.out _ (by omega)) hB hL hb⟩
        case measure => simp [intOf]
      case inr.inr.inr.inr.inr.inl =>
        have hx : 5 < s.size := by omega
        have hx2 : (5 : Int) < (s.size : Int) := by omega
        have hg := byteAt_get s 5 hx
        have hlt := byteAt_lt s.data.toList 5
        push_cast at *
        have hy : ∀ y : Int, y = (s[5].toNat : Int) * 256 → y = ((byteAt s.data.toList (4 + 1) * 256 ^ 1 : Nat) : Int) := fun y h => by rw [h, show byteAt s.data.toList (4 + 1) = s[5].toNat from hg]; omega
        have hY := Lib.hid hy
        clear hy
        rw [hg] at hlt
        have hG := Lib.hid hg
        clear hg
        go_wp2
        go_region
        go_wp2
        go_roundw
        case rel => exact ⟨6, by omega, rfl, read_step1 _ (byteAt_lt _) w wr 1 (by omega) _ _ (hY.out _ (by omega)) hB hL hb⟩
        case measure => simp [intOf]
      case inr.inr.inr.inr.inr.inr.inl =>
        have hx : 6 < s.size := by omega
        have hx2 : (6 : Int) < (s.size : Int) := by omega
        have hg := byteAt_get s 6 hx
        have hlt := byteAt_lt s.data.toList 6
        push_cast at *
        have hy : ∀ y : Int, y = (s[6].toNat : Int) * 65536 → y = ((byteAt s.data.toList (4 + 2) * 256 ^ 2 : Nat) : Int) := fun y h => by rw [h, show byteAt s.data.toList (4 + 2) = s[6].toNat from hg]; omega
        have hY := Lib.hid hy
        clear hy
        rw [hg] at hlt
        have hG := Lib.hid hg
        clear hg
        go_wp2
        go_region
        go_wp2
        go_roundw
        case rel => exact ⟨7, by omega, rfl, read_step1 _ (byteAt_lt _) w wr 2 (by omega) _ _ (hY.out _ (by omega)) hB hL hb⟩
        case measure => simp [intOf]
      case inr.inr.inr.inr.inr.inr.inr =>
        have hx : 7 < s.size := by omega
        have hx2 : (7 : Int) < (s.size : Int) := by omega
        have hg := byteAt_get s 7 hx
        have hlt := byteAt_lt s.data.toList 7
        push_cast at *
        have hy : ∀ y : Int, y = (s[7].toNat : Int) * 16777216 → y = ((byteAt s.data.toList (4 + 3) * 256 ^ 3 : Nat) : Int) := fun y h => by rw [h, show byteAt s.data.toList (4 + 3) = s[7].toNat from hg]; omega
        have hY := Lib.hid hy
        clear hy
        rw [hg] at hlt
        have hG := Lib.hid hg
        clear hg
        go_wp2
        go_region
        go_wp2
        go_roundw
        case rel => exact ⟨8, by omega, rfl, read_step1 _ (byteAt_lt _) w wr 3 (by omega) _ _ (hY.out _ (by omega)) hB hL hb⟩
        case measure => simp [intOf]
    · obtain rfl : k = 8 := by omega
      have hi2 : (Tryz.prog.info? 78).map (·.size) = some (#[Value.int .i64 0, Value.int .u32 0] : Array Value).size := by kernel_rfl
      have c0 := cell_of_row wr (w.heap.size + 1) 0 _ _ _ hL
      have c1 := cell_of_row wr (w.heap.size + 1) 1 _ _ _ hL
      have d0 := cell_of_row wr w.heap.size 0 _ _ _ hB
      have d1 := cell_of_row wr w.heap.size 1 _ _ _ hB
      have f0 := frozen_of_row wr w.heap.size 0 _ _ hB
      have f1 := frozen_of_row wr w.heap.size 1 _ _ hB
      simp only [List.getElem?_toArray, List.getElem?_cons_zero, List.getElem?_cons_succ] at c0 c1 d0 d1
      have l0 := acc_lt _ (byteAt_lt s.data.toList) 0 4
      go_wp2
      have hq := heap_setCell_same _ _ 1 _ _ (.int .u32 (acc (byteAt s.data.toList) 4 4 : Nat)) (heap_setCell_same _ _ 0 _ _ (.int .i64 (acc (byteAt s.data.toList) 0 4 : Nat)) hB)
      exact bodyPost_ret (results_cell_row rfl _ _ w.heap.size 78 #[.int .i64 (acc (byteAt s.data.toList) 0 4 : Nat), .int .u32 (acc (byteAt s.data.toList) 4 4 : Nat)] (0, 0) _ rfl hq Tryz.underlying78 rfl (by kernel_rfl)) rfl
        ⟨rfl, (hb.setCell (by simp) _).setCell (by simp) _⟩
end Go.Proofs.YtbaffabemomgjaaGreatDoor
