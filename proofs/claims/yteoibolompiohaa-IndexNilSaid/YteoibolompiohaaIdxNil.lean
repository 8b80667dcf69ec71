/- The law IndexNil, from its walk. Conditions: as each theorem says. -/
import Derived.Test.YteoibolompiohaaIdxSg
namespace Go.Proofs.Yteoibolompiohaa
open Go.RowKit

section
variable (w : World) (k tk : Key) (n : Int)
set_option maxRecDepth 100000 in
theorem setN (w : World) (k : Key) (n : Int) : Calls Try.prog 21 #[.pointer none, .string (bs k), .int .i64 n] w fun e w' => e = .returned (.tuple #[.int .i64 0, .bool false]) ∧ Below w.heap.size w w' := by
  go_enter Try.func21, Try.ntmps21
  go_wp2
  go_ret2
  exact ⟨rfl, Below.refl _ _⟩
set_option maxRecDepth 100000 in
theorem getN (w : World) (k : Key) : Calls Try.prog 19 #[.pointer none, .string (bs k)] w fun e w' => e = .returned (.tuple #[.int .i64 0, .bool false]) ∧ Below w.heap.size w w' := by
  go_enter Try.func19, Try.ntmps19
  go_wp2
  go_ret2
  exact ⟨rfl, Below.refl _ _⟩
set_option maxRecDepth 100000 in
theorem delN (w : World) (k : Key) : Calls Try.prog 22 #[.pointer none, .string (bs k)] w fun e w' => e = .returned (.tuple #[.int .i64 0, .bool false]) ∧ Below w.heap.size w w' := by
  have HG := Lib.hid (fun W => getN W k)
  go_enter Try.func22, Try.ntmps22
  go_wp2_with (go_at_call 19; (with_reducible refine (HG.out _).mono ?_); rintro e w1 ⟨rfl, hb⟩)
  go_ret2
  exact ⟨rfl, hb⟩
set_option maxRecDepth 100000 in
theorem lenN (w : World) : Calls Try.prog 20 #[.pointer none] w fun e w' => e = .returned (.int .i64 0) ∧ Below w.heap.size w w' := by
  go_enter Try.func20, Try.ntmps20
  go_wp2
  go_ret
  exact ⟨rfl, Below.refl _ _⟩
set_option maxRecDepth 100000 in
theorem depthN (w : World) : Calls Try.prog 26 #[.pointer none] w fun e w' => e = .returned (.int .i64 0) ∧ Below w.heap.size w w' := by
  go_enter Try.func26, Try.ntmps26
  go_wp2
  go_ret
  exact ⟨rfl, Below.refl _ _⟩
set_option maxRecDepth 100000 in
theorem nodesN (w : World) : Calls Try.prog 25 #[.pointer none] w fun e w' => e = .returned (.tuple #[.int .i64 0, .int .i64 0]) ∧ Below w.heap.size w w' := by
  go_enter Try.func25, Try.ntmps25
  go_wp2
  go_ret2
  exact ⟨rfl, Below.refl _ _⟩
set_option maxRecDepth 100000 in
theorem rightN (w : World) : Calls Try.prog 23 #[.pointer none] w fun e w' => e = .returned (.bool false) ∧ Below w.heap.size w w' := by
  go_enter Try.func23, Try.ntmps23
  go_wp2_with (fail)
  go_region
  all_goals
    go_wp2
    go_ret
    exact ⟨rfl, (Below.refl _ w).drew⟩
end
set_option maxRecDepth 100000 in
set_option maxHeartbeats 2000000 in
theorem indexNil_walk (w : World) (ks ts : ByteArray) (n : Int) (_ : ks.size ≤ maxLen) (_ : ts.size ≤ maxLen) (_ : (Lit.int .i64 n).wf = true) : Calls Try.prog 9 #[.string ks, .string ts, .int .i64 n] w fun e w' => e = .returned (.bool true) ∧ Below w.heap.size w w' := by
  obtain ⟨k, rfl⟩ : ∃ k, ks = bs k := ⟨ks.data.toList, (bs_of ks).symm⟩
  obtain ⟨tk, rfl⟩ : ∃ k, ts = bs k := ⟨ts.data.toList, (bs_of ts).symm⟩
  have H1 := Lib.hid (fun W => setN W k n)
  have H2 := Lib.hid (fun W => getN W k)
  have H3 := Lib.hid (fun W => delN W k)
  have H4 : Hid (∀ W, Calls Try.prog 16 #[.pointer none, .string (bs k)] W fun e w' => e = .returned (.tuple #[.agg #[.string ⟨#[]⟩, .int .i64 0], .bool false]) ∧ Below W.heap.size W w') := Lib.hid (fun W => next_any none k [] W (all_nil k W))
  have H5 := Lib.hid nodesN
  have H6 : Hid (∀ W, Calls Try.prog 13 #[.pointer none, .string (bs k), .string (bs tk), .int .i64 n] W fun e w' => ∃ a c, e = .returned (.slice a 0 c) ∧ Below W.heap.size W w') := Lib.hid (fun W => by
    have e : rngL [] tk n = [] := by unfold rngL; simp
    have := range_any none k tk n [] W (all_nil k W) (by simp)
    rw [e] at this
    refine this.mono ?_
    rintro e w' ⟨v, rfl, hG, hb⟩
    obtain ⟨a, c, hv⟩ := hG.slice
    exact ⟨a, c, by rw [hv]; rfl, hb⟩)
  have H7 := Lib.hid lenN
  have H8 := Lib.hid depthN
  have H9 := Lib.hid rightN
  have HA := Lib.hid awake_any
  have e0 : (⟨#[]⟩ : ByteArray).toList = [] := bs_toList []
  go_enter Try.func9, Try.ntmps9
  go_upto_region 6 with (first
    | (go_at_call 21; (with_reducible refine (H1.out _).mono ?_); rintro e w1 ⟨rfl, hb1⟩)
    | (go_at_call 19; (with_reducible refine (H2.out _).mono ?_); rintro e w2 ⟨rfl, hb2⟩)
    | (go_at_call 22; (with_reducible refine (H3.out _).mono ?_); rintro e w3 ⟨rfl, hb3⟩)
    | (go_at_call 16; (with_reducible refine (H4.out _).mono ?_); rintro e w4 ⟨rfl, hb4⟩))
  have hB4 : Below w.heap.size w w4 := (hb1.trans (hb2.mono hb1.size)).trans ((hb3.trans (hb4.mono hb3.size)).mono (Nat.le_trans hb1.size hb2.size))
  have hB5 := hB4.trans ((alloc_below w4 (.cells #[.string ⟨#[]⟩, .int .i64 0] PrT)).mono hB4.size)
  have hbx := BlkAt.alloc_new w4 [.string ⟨#[]⟩, .int .i64 0] PrT
  obtain ⟨gx, hgx⟩ : ∃ gx, gx = w4.heap.size := ⟨_, rfl⟩
  rw [← hgx] at hbx ⊢
  clear hgx hb1 hb2 hb3 hb4 hB4
  have hbx : BlkAt gx PrT [.string ⟨#[]⟩, .int .i64 0] (w4.alloc (.cells #[.string ⟨#[]⟩, .int .i64 0] PrT)) := hbx
  generalize (w4.alloc (.cells #[.string ⟨#[]⟩, .int .i64 0] PrT)) = w5 at *
  have HBx := Lib.hid hbx
  have HB5 := Lib.hid hB5
  clear hbx hB5
  go_wp2_with (first
    | (go_at_call 25; (with_reducible refine (H5.out _).mono ?_); rintro e w6 ⟨rfl, hb6⟩; have z0 := (HBx.out.grew hb6).cell (i := 0) rfl; have z1 := (HBx.out.grew hb6).cell (i := 1) rfl)
    | (go_at_call 13; (with_reducible refine (H6.out _).mono ?_); rintro e w7 ⟨ra, rc, rfl, hb7⟩)
    | (go_at_call 20; (with_reducible refine (H7.out _).mono ?_); rintro e w8 ⟨rfl, hb8⟩)
    | (go_at_call 26; (with_reducible refine (H8.out _).mono ?_); rintro e w9 ⟨rfl, hb9⟩)
    | (go_at_call 23; (with_reducible refine (H9.out _).mono ?_); rintro e w10 ⟨rfl, hb10⟩)
    | (go_at_call 14; (with_reducible refine (HA.out _).mono ?_); rintro e w11 ⟨rfl, hb11⟩))
  go_ret
  have B6 := HB5.out.trans (hb6.mono HB5.out.size)
  have B7 := B6.trans (hb7.mono B6.size)
  have B8 := B7.trans (hb8.mono B7.size)
  have B9 := B8.trans (hb9.mono B8.size)
  have B10 := B9.trans (hb10.mono B9.size)
  exact ⟨rfl, B10.trans (hb11.mono B10.size)⟩
end Go.Proofs.Yteoibolompiohaa
