/- The law GensRefuses, walked, where the change may be. Conditions: as each theorem says. -/
import Derived.Test.YtnliapdhmjljiaaGenW
namespace Go.Proofs.Ytnliapdhmjljiaa
open Go.RowKit

theorem got_snoc {w w' : World} {v : Value} {L : List (Int × Bool)} {x : Int × Bool} (h : Got w v (L ++ [x]) w') : ∃ g c, v = .slice (some ⟨g, 0, none⟩) (L.length + 1) c ∧ w'.cell? ⟨g, L.length * 2, none⟩ = some (.int .i64 x.1) ∧ w'.cell? ⟨g, L.length * 2 + 1, none⟩ = some (.bool x.2) := by
  obtain ⟨a, c, rfl⟩ := own_slice h.own
  obtain ⟨_, g, _, rfl, hc⟩ := got_cell h (by simp)
  have h1 := hc L.length (by simp)
  refine ⟨g, c, by simp, ?_, ?_⟩
  · rw [h1.1]; simp
  · rw [h1.2.1]; simp
theorem wrong_false {last rev : Int} (h : ¬ wrongB last rev = true) : decide (1 ≤ rev) = true ∧ decide (rev ≤ 1099511627776) = true ∧ decide (last < rev) = true := by
  obtain ⟨h1, h2, h3⟩ := wrong_no h
  exact ⟨decide_eq_true h1, decide_eq_true h2, decide_eq_true h3⟩
set_option maxRecDepth 100000 in
set_option maxHeartbeats 2000000 in
theorem refuses_lives (a : Option Addr) (c : Nat) (ops : List (Int × Int)) (rev : Int) (w : World) (h : RowsAt 2 opCells w (.slice a ops.length c) ops) (hl : ops.length ≤ 9223372036854775807) (hw : ¬ wrongB (runK (ops.take 200)).last rev = true) (hlv : 0 < (atR (flat (runK (ops.take 200)).gs) rev).rev) :
    Calls Try.prog 7 #[.slice a ops.length c, .int .i64 rev] w fun e w' => e = .returned (.bool true) ∧ Below w.heap.size w w' := by
  have hi := inv_run (ops.take 200)
  have ht2 : (tombK (runK (ops.take 200)) rev).2 = 0 := by rw [refuse_tomb hi rev, if_neg hw, if_pos hlv]
  have ht1 := tomb_new hi rev ht2
  have HD := Lib.hid (done_way a c ops w h hl)
  have hsm : ∀ W, Way w.heap.size w.heap.size 200 (runK (ops.take 200)) w W → (sinceG (runK (ops.take 200)).gs 0).length ≤ 2000 := fun W hW => since_small hW.live (by omega) 0
  have HSm := Lib.hid hsm
  have HAw := Lib.hid (fun W => awake_any W)
  obtain ⟨d1, d2, d3⟩ := wrong_false hw
  have hs0 := since0 hi
  have hs1 := since0 (inv_tomb hi rev)
  rw [ht1.1, List.map_append, ← hs0] at hs1
  have hla := ht1.2.1
  generalize runK (ops.take 200) = s at *
  have HA := Lib.hid (fun n (hn : n ≤ 1000) W (hW : Way w.heap.size w.heap.size n s w W) => at_way hW hn rev)
  have HS := Lib.hid (fun n (hn : n ≤ 1000) W (hW : Way w.heap.size w.heap.size n s w W) => since_way hW hn 0)
  have HL := Lib.hid (fun n W (hW : Way w.heap.size w.heap.size n s w W) => last_live hW.live)
  have HT : Hid (∀ W, Way w.heap.size w.heap.size 200 s w W → Calls Try.prog 24 #[.pointer (some ⟨w.heap.size, 0, none⟩), .int .i64 rev] W fun e w' => e = .returned (.int .i64 0) ∧ Way w.heap.size w.heap.size 201 (tombK s rev).1 w w') := Lib.hid (fun W hW => by have := tomb_way hW (by omega) rev; rw [ht2] at this; exact this)
  have HS2 := Lib.hid (fun n (hn : n ≤ 1000) W (hW : Way w.heap.size w.heap.size n (tombK s rev).1 w W) => since_way hW hn 0)
  rw [hs1] at HS2
  have HL2 : Hid (∀ n W, Way w.heap.size w.heap.size n (tombK s rev).1 w W → Calls Try.prog 15 #[.pointer (some ⟨w.heap.size, 0, none⟩)] W fun e w' => e = .returned (.int .i64 rev) ∧ w' = W) := Lib.hid (fun n W hW => by have := last_live hW.live; rw [hla] at this; exact this)
  clear h hi ht2 ht1 hw hsm hs0 hs1 hla
  unfold chV at HA
  generalize atR (flat s.gs) rev = ch at *
  generalize sinceG s.gs 0 = L at *
  generalize (tombK s rev).1 = s2 at *
  have dl : decide (0 < ch.rev) = true := decide_eq_true hlv
  clear hlv
  rw [dl] at HA
  clear dl
  go_enter Try.func7, Try.ntmps7
  go_wp2_with (
    first
    | (go_at_call 22; (with_reducible refine HD.out.mono ?_); rintro e w1 ⟨rfl, l1⟩; have hL := HSm.out _ l1)
    | (go_at_call 18; (with_reducible refine (HS.out 200 (by decide) _ l1).mono ?_); rintro e w2 ⟨v2, rfl, g2, l2⟩; obtain ⟨a2, c2, rfl⟩ := own_slice g2.own; clear g2)
    | (go_at_call 15; (with_reducible refine (HL.out 200 _ l2).mono ?_); rintro e w3 ⟨rfl, rfl⟩)
    | (go_at_call 16; (with_reducible refine (HA.out 200 (by decide) _ l2).mono ?_); rintro e w4 ⟨rfl, l4, _⟩; have l4' := l4.boxed (.cells #[.int .i64 ch.cr, .int .i64 ch.rev, .int .i64 ch.ver] SeenT))
    | (go_at_call 24; (with_reducible refine (HT.out _ l4').mono ?_); rintro e w5 ⟨rfl, l5⟩)
    | (go_at_call 18; (with_reducible refine (HS2.out 201 (by decide) _ l5).mono ?_); rintro e w8 ⟨v8, rfl, g8, l8⟩; obtain ⟨gb, c8, rfl, x8, _⟩ := got_snoc g8; clear g8)
    | (go_at_call 15; (with_reducible refine (HL2.out 201 _ l8).mono ?_); rintro e w9 ⟨rfl, rfl⟩)
    | (go_at_call 21; (with_reducible refine (HAw.out _).mono ?_); rintro e w10 ⟨rfl, b10⟩; have B10 := l8.below.trans (b10.mono l8.size)))
  go_ret
  exact ⟨rfl, B10⟩
set_option maxRecDepth 100000 in
set_option maxHeartbeats 2000000 in
theorem refuses_dead (a : Option Addr) (c : Nat) (ops : List (Int × Int)) (rev : Int) (w : World) (h : RowsAt 2 opCells w (.slice a ops.length c) ops) (hl : ops.length ≤ 9223372036854775807) (hw : ¬ wrongB (runK (ops.take 200)).last rev = true) (hlv : ¬ 0 < (atR (flat (runK (ops.take 200)).gs) rev).rev) :
    Calls Try.prog 7 #[.slice a ops.length c, .int .i64 rev] w fun e w' => e = .returned (.bool true) ∧ Below w.heap.size w w' := by
  have hi := inv_run (ops.take 200)
  have ht2 : (tombK (runK (ops.take 200)) rev).2 = 21 := by rw [refuse_tomb hi rev, if_neg hw, if_neg hlv]
  have ht1 : (tombK (runK (ops.take 200)) rev).1 = runK (ops.take 200) := tomb_old rev (by rw [ht2]; decide)
  have hz := not_lives hi rev hw hlv
  obtain ⟨hp0, hpa, cc, hcr, hpf, hpl⟩ := refuse_put hi rev hw
  have HD := Lib.hid (done_way a c ops w h hl)
  have hsm : ∀ W, Way w.heap.size w.heap.size 200 (runK (ops.take 200)) w W → (sinceG (runK (ops.take 200)).gs 0).length ≤ 2000 := fun W hW => since_small hW.live (by omega) 0
  have HSm := Lib.hid hsm
  have HAw := Lib.hid (fun W => awake_any W)
  obtain ⟨d1, d2, d3⟩ := wrong_false hw
  have hrev : 0 < rev := by have := (wrong_no hw).1; omega
  have hs0 := since0 hi
  have hs1 := since0 (inv_put hi rev)
  rw [hpf, List.map_append, ← hs0] at hs1
  rw [hz] at hpa
  generalize runK (ops.take 200) = s at *
  have HA := Lib.hid (fun n (hn : n ≤ 1000) W (hW : Way w.heap.size w.heap.size n s w W) => at_way hW hn rev)
  rw [hz] at HA
  have HS := Lib.hid (fun n (hn : n ≤ 1000) W (hW : Way w.heap.size w.heap.size n s w W) => since_way hW hn 0)
  have HL := Lib.hid (fun n W (hW : Way w.heap.size w.heap.size n s w W) => last_live hW.live)
  have HT : Hid (∀ W, Way w.heap.size w.heap.size 200 s w W → Calls Try.prog 24 #[.pointer (some ⟨w.heap.size, 0, none⟩), .int .i64 rev] W fun e w' => e = .returned (.int .i64 21) ∧ Way w.heap.size w.heap.size 201 s w w') := Lib.hid (fun W hW => by have := tomb_way hW (by omega) rev; rw [ht2, ht1] at this; exact this)
  have HP : Hid (∀ W, Way w.heap.size w.heap.size 201 s w W → Calls Try.prog 25 #[.pointer (some ⟨w.heap.size, 0, none⟩), .int .i64 rev] W fun e w' => e = .returned (.int .i64 0) ∧ Way w.heap.size w.heap.size 202 (putK s rev).1 w w') := Lib.hid (fun W hW => by have := put_way hW (by omega) rev; rw [hp0] at this; exact this)
  have HA2 : Hid (∀ W, Way w.heap.size w.heap.size 202 (putK s rev).1 w W → Calls Try.prog 16 #[.pointer (some ⟨w.heap.size, 0, none⟩), .int .i64 rev] W fun e w' => e = .returned (.tuple #[.agg #[.int .i64 rev, .int .i64 rev, .int .i64 1], .bool true]) ∧ Way w.heap.size w.heap.size 202 (putK s rev).1 w w' ∧ Below W.heap.size W w') := Lib.hid (fun W hW => by have := at_way hW (by omega) rev; rw [hpa] at this; simp only [chV, zeroC, decide_eq_true hrev, if_true] at this; exact this)
  have HS2 := Lib.hid (fun n (hn : n ≤ 1000) W (hW : Way w.heap.size w.heap.size n (putK s rev).1 w W) => since_way hW hn 0)
  rw [hs1] at HS2
  have HL2 : Hid (∀ n W, Way w.heap.size w.heap.size n (putK s rev).1 w W → Calls Try.prog 15 #[.pointer (some ⟨w.heap.size, 0, none⟩)] W fun e w' => e = .returned (.int .i64 rev) ∧ w' = W) := Lib.hid (fun n W hW => by have := last_live hW.live; rw [hpl] at this; exact this)
  simp only [List.map_cons, List.map_nil, hcr] at HS2
  clear h hi ht2 ht1 hw hsm hs0 hs1 hz hp0 hpa hcr hpf hpl hlv hrev
  simp only [chV, zeroC, show decide ((0 : Int) < 0) = false from rfl] at HA
  generalize sinceG s.gs 0 = L at *
  generalize (putK s rev).1 = s2 at *
  go_enter Try.func7, Try.ntmps7
  go_wp2_with (
    first
    | (go_at_call 22; (with_reducible refine HD.out.mono ?_); rintro e w1 ⟨rfl, l1⟩; have hL := HSm.out _ l1)
    | (go_at_call 18; (with_reducible refine (HS.out 200 (by decide) _ l1).mono ?_); rintro e w2 ⟨v2, rfl, g2, l2⟩; obtain ⟨a2, c2, rfl⟩ := own_slice g2.own; clear g2)
    | (go_at_call 15; (with_reducible refine (HL.out 200 _ l2).mono ?_); rintro e w3 ⟨rfl, rfl⟩)
    | (go_at_call 16; (with_reducible refine (HA.out 200 (by decide) _ l2).mono ?_); rintro e w4 ⟨rfl, l4, _⟩; have l4' := l4.boxed (.cells #[.int .i64 0, .int .i64 0, .int .i64 0] SeenT))
    | (go_at_call 24; (with_reducible refine (HT.out _ l4').mono ?_); rintro e w5 ⟨rfl, l5⟩)
    | (go_at_call 25; (with_reducible refine (HP.out _ l5).mono ?_); rintro e w6 ⟨rfl, l6⟩)
    | (go_at_call 16; (with_reducible refine (HA2.out _ l6).mono ?_); rintro e w7 ⟨rfl, l7, _⟩; have l7' := l7.boxed (.cells #[.int .i64 rev, .int .i64 rev, .int .i64 1] SeenT); have x7 := BlkAt.alloc_new w7 [.int .i64 rev, .int .i64 rev, .int .i64 1] SeenT; have y1 := x7.cell (i := 1) rfl; have y2 := x7.cell (i := 2) rfl; clear x7)
    | (go_at_call 18; (with_reducible refine (HS2.out 202 (by decide) _ l7').mono ?_); rintro e w8 ⟨v8, rfl, g8, l8⟩; obtain ⟨gb, c8, rfl, x8, _⟩ := got_snoc g8; clear g8)
    | (go_at_call 15; (with_reducible refine (HL2.out 202 _ l8).mono ?_); rintro e w9 ⟨rfl, rfl⟩)
    | (go_at_call 21; (with_reducible refine (HAw.out _).mono ?_); rintro e w10 ⟨rfl, b10⟩; have B10 := l8.below.trans (b10.mono l8.size)))
  go_ret
  exact ⟨rfl, B10⟩
/-- THE LAW. -/
theorem gensRefuses_walk (W : World) (v0 : Value) (rev : Int) (h0 : IsOps W v0) (w1 : (Lit.int .i64 rev).wf = true) :
    Calls Try.prog 7 #[v0, .int .i64 rev] W fun e w' => e = .returned (.bool true) ∧ Below W.heap.size W w' := by
  obtain ⟨L, a, c, rfl, h1, h2, h3, _⟩ := h0
  unfold maxLen at h2
  by_cases hw : wrongB (runK (L.take 200)).last rev = true
  · exact refuses_no a c L rev W h3 (by omega) hw
  · by_cases hlv : 0 < (atR (flat (runK (L.take 200)).gs) rev).rev
    · exact refuses_lives a c L rev W h3 (by omega) hw hlv
    · exact refuses_dead a c L rev W h3 (by omega) hw hlv
end Go.Proofs.Ytnliapdhmjljiaa
