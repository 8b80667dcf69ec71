/- The law GensRefuses, walked. Conditions: as each theorem says. -/
import Derived.Test.YtnliapdhmjljiaaGenNil
namespace Go.Proofs.Ytnliapdhmjljiaa
open Go.RowKit

theorem since0 {s : Ks} (h : InvK s) : sinceG s.gs 0 = (flat s.gs).map fun c => (c.rev, c.gone) := by
  rw [since_eq]
  congr 1
  refine List.filter_eq_self.2 (fun c hc => ?_)
  have := (flat_top h c hc).1
  exact decide_eq_true (by omega)
theorem not_lives {s : Ks} (h : InvK s) (rev : Int) (hw : ¬ wrongB s.last rev = true) (hl : ¬ 0 < (atR (flat s.gs) rev).rev) : atR (flat s.gs) rev = zeroC := by
  have ha := at_open h rev (wrong_no hw).2.2
  by_cases ho : openB s.gs = true
  · rw [ha, if_pos ho] at hl
    have := last_pos h ho
    exact absurd this hl
  · rw [ha, if_neg ho]
/-- The call under way: since base all is new, the key is there. -/
structure Way (base kb n : Nat) (s : Ks) (w0 w : World) : Prop where
  live : Live (since base w) kb s n w
  below : Below base w0 w
  size : base ≤ w.heap.size
section
variable {base kb n : Nat} {s : Ks} {w0 w : World}
theorem Way.later {w' : World} (h : Way base kb n s w0 w) (hb : Below w.heap.size w w') : Way base kb n s w0 w' := ⟨h.live.later hb, h.below.trans (hb.mono h.size), Nat.le_trans h.size hb.size⟩
theorem Way.boxed (h : Way base kb n s w0 w) (o : Obj) : Way base kb n s w0 (w.alloc o) := h.later (alloc_below w o)
theorem Way.after {v : Value} {s' : Ks} {n' : Nat} {e : Ending} {w' : World} (h : Way base kb n s w0 w) (k : OwnAfter base kb w v s' n' e w') : e = .returned v ∧ Way base kb n' s' w0 w' :=
  ⟨k.1, k.2.1, h.below.trans k.2.2, Nat.le_trans h.size k.2.2.size⟩
theorem put_way (h : Way base kb n s w0 w) (hn : n ≤ 1000) (rev : Int) : Calls Try.prog 25 #[.pointer (some ⟨kb, 0, none⟩), .int .i64 rev] w fun e w' => e = .returned (.int .i64 (putK s rev).2) ∧ Way base kb (n + 1) (putK s rev).1 w0 w' :=
  (put_own h.live h.size hn rev).mono fun e w' k => h.after k
theorem tomb_way (h : Way base kb n s w0 w) (hn : n ≤ 1000) (rev : Int) : Calls Try.prog 24 #[.pointer (some ⟨kb, 0, none⟩), .int .i64 rev] w fun e w' => e = .returned (.int .i64 (tombK s rev).2) ∧ Way base kb (n + 1) (tombK s rev).1 w0 w' :=
  (tomb_own h.live h.size hn rev).mono fun e w' k => h.after k
theorem at_way (h : Way base kb n s w0 w) (hn : n ≤ 1000) (rev : Int) : Calls Try.prog 16 #[.pointer (some ⟨kb, 0, none⟩), .int .i64 rev] w fun e w' => e = .returned (chV (atR (flat s.gs) rev)) ∧ Way base kb n s w0 w' ∧ Below w.heap.size w w' :=
  (at_live h.live hn rev).mono fun e w' k => ⟨k.1, h.later k.2, k.2⟩
theorem since_way (h : Way base kb n s w0 w) (hn : n ≤ 1000) (rev : Int) : Calls Try.prog 18 #[.pointer (some ⟨kb, 0, none⟩), .int .i64 rev] w fun e w' => ∃ v, e = .returned v ∧ Got w v (sinceG s.gs rev) w' ∧ Way base kb n s w0 w' :=
  (since_live h.live hn rev).mono fun e w' ⟨v, k1, k2⟩ => ⟨v, k1, k2, h.later k2.below⟩
theorem done_way (a : Option Addr) (c : Nat) (ops : List (Int × Int)) (w : World) (h : RowsAt 2 opCells w (.slice a ops.length c) ops) (hl : ops.length ≤ 9223372036854775807) : Calls Try.prog 22 #[.slice a ops.length c] w fun e w' => e = .returned (.pointer (some ⟨w.heap.size, 0, none⟩)) ∧ Way w.heap.size w.heap.size 200 (runK (ops.take 200)) w w' :=
  (done_any a c ops w h hl).mono fun e w' ⟨k1, k2, k3⟩ => ⟨k1, k2, k3, k3.size⟩
end
set_option maxRecDepth 100000 in
set_option maxHeartbeats 2000000 in
theorem refuses_no (a : Option Addr) (c : Nat) (ops : List (Int × Int)) (rev : Int) (w : World) (h : RowsAt 2 opCells w (.slice a ops.length c) ops) (hl : ops.length ≤ 9223372036854775807) (hw : wrongB (runK (ops.take 200)).last rev = true) :
    Calls Try.prog 7 #[.slice a ops.length c, .int .i64 rev] w fun e w' => e = .returned (.bool true) ∧ Below w.heap.size w w' := by
  have hi := inv_run (ops.take 200)
  have ht2 : (tombK (runK (ops.take 200)) rev).2 = 1 := by rw [refuse_tomb hi rev, if_pos hw]
  have ht1 : (tombK (runK (ops.take 200)) rev).1 = runK (ops.take 200) := tomb_old rev (by rw [ht2]; decide)
  have hp := put_old rev hw
  have HD := Lib.hid (done_way a c ops w h hl)
  have hsm : ∀ W, Way w.heap.size w.heap.size 200 (runK (ops.take 200)) w W → (sinceG (runK (ops.take 200)).gs 0).length ≤ 2000 := fun W hW => since_small hW.live (by omega) 0
  have HSm := Lib.hid hsm
  have HAw := Lib.hid (fun W => awake_any W)
  have hwc := wrong_yes hw
  generalize runK (ops.take 200) = s at *
  have HA := Lib.hid (fun n (hn : n ≤ 1000) W (hW : Way w.heap.size w.heap.size n s w W) => at_way hW hn rev)
  have HS := Lib.hid (fun n (hn : n ≤ 1000) W (hW : Way w.heap.size w.heap.size n s w W) => since_way hW hn 0)
  have HL := Lib.hid (fun n W (hW : Way w.heap.size w.heap.size n s w W) => last_live hW.live)
  have HT : Hid (∀ W, Way w.heap.size w.heap.size 200 s w W → Calls Try.prog 24 #[.pointer (some ⟨w.heap.size, 0, none⟩), .int .i64 rev] W fun e w' => e = .returned (.int .i64 1) ∧ Way w.heap.size w.heap.size 201 s w w') := Lib.hid (fun W hW => by have := tomb_way hW (by omega) rev; rw [ht2, ht1] at this; exact this)
  have HP : Hid (∀ W, Way w.heap.size w.heap.size 201 s w W → Calls Try.prog 25 #[.pointer (some ⟨w.heap.size, 0, none⟩), .int .i64 rev] W fun e w' => e = .returned (.int .i64 1) ∧ Way w.heap.size w.heap.size 202 s w w') := Lib.hid (fun W hW => by have := put_way hW (by omega) rev; rw [hp] at this; exact this)
  clear h hi ht2 ht1 hp hw hsm
  unfold chV at HA
  generalize atR (flat s.gs) rev = ch at *
  generalize sinceG s.gs 0 = L at *
  have ds : decide (1 ≤ rev) = false ∨ (decide (1 ≤ rev) = true ∧ decide (rev ≤ 1099511627776) = false) ∨ (decide (1 ≤ rev) = true ∧ decide (rev ≤ 1099511627776) = true ∧ decide (s.last < rev) = false) := by
    rcases hwc with h1 | ⟨h1, h2⟩ | ⟨h1, h2, h3⟩
    · exact .inl (decide_eq_false (by omega))
    · exact .inr (.inl ⟨decide_eq_true (by omega), decide_eq_false (by omega)⟩)
    · exact .inr (.inr ⟨decide_eq_true (by omega), decide_eq_true (by omega), decide_eq_false (by omega)⟩)
  clear hwc
  rcases ds with d1 | ⟨d1, d2⟩ | ⟨d1, d2, d3⟩
  all_goals
    go_enter Try.func7, Try.ntmps7
    go_wp2_with (
      first
      | (go_at_call 22; (with_reducible refine HD.out.mono ?_); rintro e w1 ⟨rfl, l1⟩; have hL := HSm.out _ l1)
      | (go_at_call 18; (with_reducible refine (HS.out 200 (by decide) _ l1).mono ?_); rintro e w2 ⟨v2, rfl, g2, l2⟩; obtain ⟨a2, c2, rfl⟩ := own_slice g2.own; clear g2)
      | (go_at_call 15; (with_reducible refine (HL.out 200 _ l2).mono ?_); rintro e w3 ⟨rfl, rfl⟩)
      | (go_at_call 16; (with_reducible refine (HA.out 200 (by decide) _ l2).mono ?_); rintro e w4 ⟨rfl, l4, _⟩; have l4' := l4.boxed (.cells #[.int .i64 ch.cr, .int .i64 ch.rev, .int .i64 ch.ver] SeenT))
      | (go_at_call 24; (with_reducible refine (HT.out _ l4').mono ?_); rintro e w5 ⟨rfl, l5⟩)
      | (go_at_call 25; (with_reducible refine (HP.out _ l5).mono ?_); rintro e w6 ⟨rfl, l6⟩)
      | (go_at_call 16; (with_reducible refine (HA.out 202 (by decide) _ l6).mono ?_); rintro e w7 ⟨rfl, l7, _⟩; have l7' := l7.boxed (.cells #[.int .i64 ch.cr, .int .i64 ch.rev, .int .i64 ch.ver] SeenT))
      | (go_at_call 18; (with_reducible refine (HS.out 202 (by decide) _ l7').mono ?_); rintro e w8 ⟨v8, rfl, g8, l8⟩; obtain ⟨a8, c8, rfl⟩ := own_slice g8.own; clear g8)
      | (go_at_call 15; (with_reducible refine (HL.out 202 _ l8).mono ?_); rintro e w9 ⟨rfl, rfl⟩)
      | (go_at_call 21; (with_reducible refine (HAw.out _).mono ?_); rintro e w10 ⟨rfl, b10⟩; have B10 := l8.below.trans (b10.mono l8.size)))
    go_ret
    exact ⟨rfl, B10⟩
end Go.Proofs.Ytnliapdhmjljiaa
