/- The two Encodes at a message that is not right, or none. Conditions: as each theorem says. -/
import Derived.Test.YtlbacddgjagcbaaValRb
namespace Go.Proofs.Ytlbacddgjagcbaa
open Go.RowKit

/-- What is no right message is refused. -/
theorem encode_noE (w : World) (v : Value) (a : Option Addr) (cap : Nat) (L : List Ent) (hE : EntsIn w a cap L) (h : ∀ X, EntsIn X a cap L → Calls Try.prog 53 #[v] X fun e w' => RightSaid false true X e w') : Calls Try.prog 37 #[v] w fun e w' => EncSaid [] 1 w e w' := by
  have HR := Lib.hid (h w hE)
  unfold RightSaid at HR
  clear h hE
  go_enter Try.func37, Try.ntmps37
  go_wp2_with (fail)
  refine HR.out.mono ?_
  rintro e w1 ⟨rfl, hb⟩
  go_wp2
  go_ret2
  exact ⟨rfl, hb⟩
set_option maxRecDepth 100000 in
set_option maxHeartbeats 4000000 in
theorem refEnc_no (m : Msg) (a : Option Addr) (cap : Nat) (h1 : 1 ≤ m.ty) (h2 : m.ty ≤ 6) (w : World) (hE : EntsIn w a cap m.ents) (h : ∀ X, EntsIn X a cap m.ents → Calls Try.prog 58 #[msgV m a cap] X fun e w' => e = .returned (.bool false) ∧ Below X.heap.size X w') :
    Calls Try.prog 38 #[msgV m a cap] w fun e w' => EncSaid [] 1 w e w' := by
  have HR := Lib.hid h
  clear h
  obtain ⟨ty, ld, ⟨z1, z2⟩, ep, own, ⟨f1, f2⟩, rnd, st, kd, body, ents, flag, node, cli, seq⟩ := m
  simp only at h1 h2 hE
  unfold msgV msgCells at HR ⊢
  simp only at HR ⊢
  have t1 : decide (ty < 1) = false := decide_eq_false (by omega)
  have t2 : decide (6 < ty) = false := decide_eq_false (by omega)
  obtain ⟨W, hW⟩ : ∃ X, X = w.alloc (.cells #[.int .i64 ty, .int .i64 ld, .int .i64 z1, .int .i64 z2, .int .i64 ep, .int .i64 own, .int .i64 f1, .int .i64 f2, .int .i64 rnd, .int .i64 st, .int .i64 kd, .string (bs body), .slice a ents.length cap, .bool flag, .int .i64 node, .int .i64 cli, .int .i64 seq] 51) := ⟨_, rfl⟩
  have hB : Below w.heap.size w W := by rw [hW]; exact alloc_below w _
  have HK := Lib.hid (show W.heap[w.heap.size]? = some (.cells #[.int .i64 ty, .int .i64 ld, .int .i64 z1, .int .i64 z2, .int .i64 ep, .int .i64 own, .int .i64 f1, .int .i64 f2, .int .i64 rnd, .int .i64 st, .int .i64 kd, .string (bs body), .slice a ents.length cap, .bool flag, .int .i64 node, .int .i64 cli, .int .i64 seq] 51 (0, 0)) by rw [hW]; exact heap_alloc_new w _)
  have hE := hE.grew hB
  have HB := Lib.hid hB
  have HWe := Lib.hid hW
  clear hW hB h1 h2
  go_enter Try.func38, Try.ntmps38
  go_upto_region 1 with (fail)
  rw [← HWe.out]
  clear HWe
  generalize hg : w.heap.size = g at *
  have HG := Lib.hid hg
  clear hg
  have m0 : W.cell? ⟨g, 0, none⟩ = some (.int .i64 ty) := by rw [Lib.cell_of_heap HK.out]; rfl
  have m1 : W.cell? ⟨g, 1, none⟩ = some (.int .i64 ld) := by rw [Lib.cell_of_heap HK.out]; rfl
  have m2 : W.cell? ⟨g, 2, none⟩ = some (.int .i64 z1) := by rw [Lib.cell_of_heap HK.out]; rfl
  have m3 : W.cell? ⟨g, 3, none⟩ = some (.int .i64 z2) := by rw [Lib.cell_of_heap HK.out]; rfl
  have m4 : W.cell? ⟨g, 4, none⟩ = some (.int .i64 ep) := by rw [Lib.cell_of_heap HK.out]; rfl
  have m5 : W.cell? ⟨g, 5, none⟩ = some (.int .i64 own) := by rw [Lib.cell_of_heap HK.out]; rfl
  have m6 : W.cell? ⟨g, 6, none⟩ = some (.int .i64 f1) := by rw [Lib.cell_of_heap HK.out]; rfl
  have m7 : W.cell? ⟨g, 7, none⟩ = some (.int .i64 f2) := by rw [Lib.cell_of_heap HK.out]; rfl
  have m8 : W.cell? ⟨g, 8, none⟩ = some (.int .i64 rnd) := by rw [Lib.cell_of_heap HK.out]; rfl
  have m9 : W.cell? ⟨g, 9, none⟩ = some (.int .i64 st) := by rw [Lib.cell_of_heap HK.out]; rfl
  have m10 : W.cell? ⟨g, 10, none⟩ = some (.int .i64 kd) := by rw [Lib.cell_of_heap HK.out]; rfl
  have m11 : W.cell? ⟨g, 11, none⟩ = some (.string (bs body)) := by rw [Lib.cell_of_heap HK.out]; rfl
  have m12 : W.cell? ⟨g, 12, none⟩ = some (.slice a ents.length cap) := by rw [Lib.cell_of_heap HK.out]; rfl
  have m13 : W.cell? ⟨g, 13, none⟩ = some (.bool flag) := by rw [Lib.cell_of_heap HK.out]; rfl
  have m14 : W.cell? ⟨g, 14, none⟩ = some (.int .i64 node) := by rw [Lib.cell_of_heap HK.out]; rfl
  have m15 : W.cell? ⟨g, 15, none⟩ = some (.int .i64 cli) := by rw [Lib.cell_of_heap HK.out]; rfl
  have m16 : W.cell? ⟨g, 16, none⟩ = some (.int .i64 seq) := by rw [Lib.cell_of_heap HK.out]; rfl
  go_wp2_with (fail)
  refine (HR.out _ hE).mono ?_
  rintro e w1 ⟨rfl, hb1⟩
  go_wp2
  go_ret2
  exact ⟨rfl, by rw [HG.out]; exact HB.out.trans (hb1.mono (by have := HB.out.size; rw [HG.out] at this; exact this))⟩
set_option maxRecDepth 100000 in
set_option maxHeartbeats 4000000 in
theorem refEnc_none (w : World) : Calls Try.prog 38 #[msgV (plM .none) none 0] w fun e w' => EncSaid [] 14 w e w' := by
  unfold msgV msgCells plM
  simp only [List.length_nil]
  have HB := Lib.hid (fun o => alloc_below w o)
  go_enter Try.func38, Try.ntmps38
  go_wp2
  go_ret2
  exact ⟨rfl, HB.out _⟩
end Go.Proofs.Ytlbacddgjagcbaa
