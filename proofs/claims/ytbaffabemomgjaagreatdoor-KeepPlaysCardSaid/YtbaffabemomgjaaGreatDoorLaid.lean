/- The walks of the head's bytes: (record).laid, the reference's four. Conditions: as each theorem says. -/
import Derived.Test.YtbaffabemomgjaaGreatDoorSum
import Derived.Test.YtbaffabemomgjaaGreatDoorKit
import Derived.Laws.IdiomStrings
import Derived.OpenShut
namespace Go.Proofs.YtbaffabemomgjaaGreatDoor
open Go.RowKit

/-- A number's four bytes, the lowest first. -/
def le4 (n : Nat) : List UInt8 := [UInt8.ofNat n, UInt8.ofNat (n / 256), UInt8.ofNat (n / 65536), UInt8.ofNat (n / 16777216)]
theorem le4_length (n : Nat) : (le4 n).length = 4 := rfl
theorem byteCells_le4 (n : Nat) (h : n < 4294967296) : byteCells (le4 n) = [.int .u8 ((n : Int) % 256), .int .u8 ((n : Int) / 256 % 256), .int .u8 ((n : Int) / 65536 % 256), .int .u8 ((n : Int) / 16777216)] := by
  have e : ((n : Int) / 16777216) = (n : Int) / 16777216 % 256 := by omega
  rw [e]
  simp [byteCells, le4]

theorem info5 : (Tryz.prog.info? 5).map (fun i => (i.zero, i.size, i.bytes)) = some (some (.int .u8 0), 1, 1) := by kernel_rfl

/-- 'string(b)' of a slice that the call owns. -/
theorem back_own5 (w : World) (base : Nat) (v : Value) (n : Nat) (l : List UInt8) (h : w.ownsRow base 5 1 v n (byteCells l)) (hn : 0 < n) : (convert 95 9 v).run Tryz.prog w = .ok (.string ⟨l.toArray⟩) w := by
  have hl : l.length = n := by have := h.1; rw [byteCells_length] at this; omega
  rcases h.2 with ⟨_, h0⟩ | ⟨g, cap, cur, rfl, _⟩
  · omega
  · have hb := run_convert_bytes_back (P := Tryz.prog) w 95 9 5 ⟨g, 0, none⟩ cap l Tryz.underlying95 Tryz.underlying5 Tryz.underlying9 (fun j hj => by
      have ha : (⟨g, 0, none⟩ : Addr).add j = ⟨g, j, none⟩ := by unfold Addr.add; split <;> simp_all
      rw [ha, h.cellAt j (by omega)]
      simp [byteCells, hj])
    rw [hl] at hb
    exact hb

set_option maxRecDepth 100000 in
set_option maxHeartbeats 400000 in
theorem laid_any (n c : Nat) (hn : n < 4294967296) (hc : c < 4294967296) (w : World) :
    Calls Tryz.prog 51 #[.agg #[.int .i64 n, .int .u32 c]] w fun e w' => e = .returned (.string ⟨(le4 n ++ le4 c).toArray⟩) ∧ Below w.heap.size w w' := by
  obtain ⟨i5, hi, hz0, hz1, hz2⟩ := info_parts info5
  go_enter Tryz.func51, Tryz.ntmps51
  go_wp2_with (at_make; refine wpList_make_own _ rfl _ _ 95 rfl (w.heap.size + 1) 5 i5 (.int .u8 0) 1 Tryz.underlying95 hi hz0 hz1 .i64 .i64 8 8 rfl rfl rfl (by rw [hz2]; decide) (by decide) (by simp) ?_)
  intro w1 hown1 hgr1
  have hb1 : Below w.heap.size w w1 := ((Below.refl _ w).alloc (Nat.le_refl _) _).grown hgr1 (by simp) (by simp)
  have hbl := hgr1.block w.heap.size (by simp) (by simp)
  rw [heap_alloc_new] at hbl
  have hc0 : w1.cell? ⟨w.heap.size, 0, none⟩ = some (.int .i64 n) := by simp [World.cell?, hbl]
  have hc1 : w1.cell? ⟨w.heap.size, 1, none⟩ = some (.int .u32 c) := by simp [World.cell?, hbl]
  have hsz := hgr1.size
  have hu : IntKind.u32.wrap (n : Int) = n := by rw [IntKind.wrap_u32]; omega
  clear hbl
  go_wp2
  go_loopw [3, 14] (fun v i wr => ∃ k : Nat, k ≤ 2 ∧ i = .int .i64 k ∧ wr.ownsRow (w.heap.size + 1) 5 1 v (4 * k) (byteCells ((le4 n ++ le4 c).take (4 * k))) ∧
      wr.heap[w1.heap.size]? = some (.cells #[.int .u32 n, .int .u32 c] 75 (0, 0)) ∧ Below w.heap.size w wr ∧ w.heap.size < wr.heap.size) (fun _ i _ => 2 - (intOf i).toNat)
  case atStart =>
    simp only [World.size_alloc] at hsz
    exact ⟨0, by omega, rfl, hown1.alloc _, heap_alloc_new _ _, hb1.alloc (by omega) _, by simp; omega⟩
  case round =>
    obtain ⟨k, hk, rfl, hown, hbl, hbw, hsw⟩ := hrel
    by_cases h2 : k < 2
    · obtain ⟨x, hx, hcx, hxs⟩ : ∃ x : Nat, x < 4294967296 ∧ wr.cell? ⟨w1.heap.size, k, none⟩ = some (.int .u32 x) ∧ byteCells ((le4 n ++ le4 c).take (4 * k)) ++ byteCells (le4 x) = byteCells ((le4 n ++ le4 c).take (4 * (k + 1))) := by
        rcases (show k = 0 ∨ k = 1 by omega) with rfl | rfl
        · exact ⟨n, hn, by simp [World.cell?, hbl], rfl⟩
        · exact ⟨c, hc, by simp [World.cell?, hbl], rfl⟩
      clear hown1 hgr1 hb1 hc0 hc1
      go_wp2_with (at_builtin; refine wpList_append_own _ rfl _ _ 95 rfl (w.heap.size + 1) 5 i5 (.int .u8 0) 1 1 Tryz.underlying95 hi hz0 hz1 hz2 rfl (by decide) _ _ _ rfl (hown.alloc _) ⟨wr.heap.size, 0, none⟩ 4 4 (byteCells (le4 x)) rfl rfl ?c1 ?c2 ?c3 ?c4 ?c5 ?_)
      case c1 => rw [byteCells_le4 x hx]; exact fun j u h => new_cells wr _ 5 j u h
      case c2 => rw [byteCells_le4 x hx]; intro u hu; simp at hu; rcases hu with rfl | rfl | rfl | rfl <;> rfl
      case c3 => unfold maxLen; omega
      case c4 => omega
      case c5 => simp; omega
      intro v' w2 hown2 hgr2 _
      have hbl2 := kept_other hgr2 (hown.alloc _) ((World.grownBy_alloc wr _ none).block w1.heap.size (Array.getElem?_eq_some_iff.1 hbl).1 (by simp) |>.trans hbl) (by decide)
      have hbw2 := (hbw.alloc (by omega) _).grown hgr2 (by simp; omega) (fun k h => by have := own_base hown k h; omega)
      have hsw2 := hgr2.size
      simp only [World.size_alloc] at hsw2
      clear hgr2 hown hxs hbl hbw
      go_wp2
      go_roundw
      case rel => exact ⟨k + 1, by omega, by go_num, hown2, hbl2, hbw2, by omega⟩
      case measure => simp [intOf]; omega
    · obtain rfl : k = 2 := by omega
      have hback := back_own5 wr _ _ _ _ hown (by omega)
      clear hown hown1 hgr1 hb1 hc0 hc1 hbl
      go_wp2
      go_ret
      exact ⟨rfl, hbw⟩
end Go.Proofs.YtbaffabemomgjaaGreatDoor
