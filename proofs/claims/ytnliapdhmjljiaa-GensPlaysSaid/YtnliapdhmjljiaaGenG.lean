/- The walk of awake: the chapter's examples. Conditions: as each theorem says. -/
import Derived.Test.YtnliapdhmjljiaaGenF
namespace Go.Proofs.Ytnliapdhmjljiaa
open Go.RowKit

/-- All that has been laid since base. -/
abbrev since (base : Nat) (w : World) : Nat → Prop := fun b => base ≤ b ∧ b < w.heap.size
def OwnAfter (base kb : Nat) (w : World) (v : Value) (s' : Ks) (n' : Nat) (e : Ending) (w' : World) : Prop := e = .returned v ∧ Live (since base w') kb s' n' w' ∧ Below base w w'
theorem own_after {base kb n' : Nat} {w w' : World} {v : Value} {s' : Ks} {e : Ending} (hb : base ≤ w.heap.size) (h : LiveAfter (since base w) kb w v s' n' e w') : OwnAfter base kb w v s' n' e w' :=
  ⟨h.1, live_own h.2.1 h.2.2.size hb, h.2.2.below hb (fun i hi => hi.1)⟩
section
variable {base kb n : Nat} {s : Ks} {w : World}
theorem put_own (h : Live (since base w) kb s n w) (hb : base ≤ w.heap.size) (hn : n ≤ 1000) (rev : Int) : Calls Try.prog 25 #[.pointer (some ⟨kb, 0, none⟩), .int .i64 rev] w (OwnAfter base kb w (.int .i64 (putK s rev).2) (putK s rev).1 (n + 1)) :=
  (put_live h hn rev).mono fun e w' h1 => own_after hb h1
theorem tomb_own (h : Live (since base w) kb s n w) (hb : base ≤ w.heap.size) (hn : n ≤ 1000) (rev : Int) : Calls Try.prog 24 #[.pointer (some ⟨kb, 0, none⟩), .int .i64 rev] w (OwnAfter base kb w (.int .i64 (tombK s rev).2) (tombK s rev).1 (n + 1)) :=
  (tomb_live h hn rev).mono fun e w' h1 => own_after hb h1
theorem comp_own (h : Live (since base w) kb s n w) (hb : base ≤ w.heap.size) (hn : n ≤ 1000) (rev : Int) : Calls Try.prog 23 #[.pointer (some ⟨kb, 0, none⟩), .int .i64 rev] w (OwnAfter base kb w (.bool (decide ((compK s rev).gs ≠ []))) (compK s rev) (n + 1)) :=
  (comp_live h hn rev).mono fun e w' h1 => own_after hb (comp_after h1)
/-- Nothing that was there has changed: the key too. -/
theorem Live.later {w' : World} (h : Live (since base w) kb s n w) (hb : Below w.heap.size w w') : Live (since base w') kb s n w' :=
  (h.grew hb).wider (fun i hi => ⟨hi.1, Nat.lt_of_lt_of_le hi.2 hb.size⟩) (fun i hi => hi.2)
end
def k1 : Ks := ⟨[⟨2, 0, [2], 0⟩], 2⟩
def k2 : Ks := ⟨[⟨2, 0, [2, 5], 0⟩], 5⟩
def k3 : Ks := ⟨[⟨2, 0, [2, 5], 7⟩], 7⟩
def k4 : Ks := ⟨[⟨2, 0, [2, 5], 7⟩, ⟨9, 0, [9], 0⟩], 9⟩
theorem own_refl {base kb n' : Nat} {w : World} {v v' : Value} {s' s'' : Ks} (hv : v = v') (hs : s' = s'') {f : FuncId} {args : Array Value} (h : Calls Try.prog f args w (OwnAfter base kb w v s' n')) : Calls Try.prog f args w (OwnAfter base kb w v' s'' n') := by
  subst hv hs; exact h
/-- What a list of three changes looks like behind Since. -/
theorem got_cell {w w' : World} {a : Option Addr} {n c : Nat} {L : List (Int × Bool)} (h : Got w (.slice a n c) L w') (hn : 0 < L.length) : n = L.length ∧ ∃ g, w.heap.size ≤ g ∧ a = some ⟨g, 0, none⟩ ∧ ∀ i (hi : i < L.length), w'.cell? ⟨g, i * 2, none⟩ = some (.int .i64 L[i].1) ∧ w'.cell? ⟨g, i * 2 + 1, none⟩ = some (.bool L[i].2) ∧ w'.frozen? ⟨g, i * 2, none⟩ = false := by
  rcases h.own.2 with ⟨h1, h2⟩ | ⟨g, cap, cur, hv, hg, hh, hn', hm, hs, hx⟩
  · omega
  · simp only [Value.slice.injEq] at hv
    obtain ⟨rfl, rfl, rfl⟩ := hv
    refine ⟨rfl, g, hg, rfl, fun i hi => ?_⟩
    have key : ∀ j, j < 2 → w'.cell? ⟨g, i * 2 + j, none⟩ = (chgCells L[i])[j]? := by
      intro j hj
      have e1 : (chgRow L)[i * 2 + j]? = (chgCells L[i])[j]? := by
        unfold chgRow
        clear h hh hn' hs hx
        revert i
        induction L with
        | nil => intro i hi; simp at hi
        | cons x L ih =>
          intro i hi
          rw [List.flatMap_cons]
          cases i with
          | zero => rw [List.getElem?_append_left (by simp [chgCells]; omega)]; simp
          | succ i =>
            rw [List.getElem?_append_right (by simp [chgCells]; omega)]
            simp only [List.getElem_cons_succ]
            have e : (i + 1) * 2 + j - (chgCells x).length = i * 2 + j := by simp [chgCells]; omega
            rw [e]
            by_cases hL : 0 < L.length
            · exact ih hL i (by simpa using hi)
            · simp at hi; omega
      rw [Lib.cell_of_heap hh, ← e1, ← hx, List.getElem?_take, if_pos (by omega), Array.getElem?_toList]
    exact ⟨key 0 (by omega), key 1 (by omega), Lib.frozen_of_heap hh _⟩
set_option maxRecDepth 100000 in
set_option maxHeartbeats 2000000 in
theorem awake_any (w : World) : Calls Try.prog 21 #[] w fun e w' => e = .returned (.bool true) ∧ Below w.heap.size w w' := by
  have HN := Lib.hid (new_live w)
  have P2 : Hid (∀ W, Live (since w.heap.size W) w.heap.size newK 0 W → w.heap.size ≤ W.heap.size → Calls Try.prog 25 #[.pointer (some ⟨w.heap.size, 0, none⟩), .int .i64 2] W (OwnAfter w.heap.size w.heap.size W (.int .i64 0) k1 1)) := Lib.hid (fun W h hb => own_refl (by rfl) (by rfl) (put_own h hb (by omega) 2))
  have P5 : Hid (∀ W, Live (since w.heap.size W) w.heap.size k1 1 W → w.heap.size ≤ W.heap.size → Calls Try.prog 25 #[.pointer (some ⟨w.heap.size, 0, none⟩), .int .i64 5] W (OwnAfter w.heap.size w.heap.size W (.int .i64 0) k2 2)) := Lib.hid (fun W h hb => own_refl (by rfl) (by rfl) (put_own h hb (by omega) 5))
  have T7 : Hid (∀ W, Live (since w.heap.size W) w.heap.size k2 2 W → w.heap.size ≤ W.heap.size → Calls Try.prog 24 #[.pointer (some ⟨w.heap.size, 0, none⟩), .int .i64 7] W (OwnAfter w.heap.size w.heap.size W (.int .i64 0) k3 3)) := Lib.hid (fun W h hb => own_refl (by rfl) (by rfl) (tomb_own h hb (by omega) 7))
  have T8 : Hid (∀ W, Live (since w.heap.size W) w.heap.size k3 3 W → w.heap.size ≤ W.heap.size → Calls Try.prog 24 #[.pointer (some ⟨w.heap.size, 0, none⟩), .int .i64 8] W (OwnAfter w.heap.size w.heap.size W (.int .i64 21) k3 4)) := Lib.hid (fun W h hb => own_refl (by rfl) (by rfl) (tomb_own h hb (by omega) 8))
  have P9 : Hid (∀ W, Live (since w.heap.size W) w.heap.size k3 4 W → w.heap.size ≤ W.heap.size → Calls Try.prog 25 #[.pointer (some ⟨w.heap.size, 0, none⟩), .int .i64 9] W (OwnAfter w.heap.size w.heap.size W (.int .i64 0) k4 5)) := Lib.hid (fun W h hb => own_refl (by rfl) (by rfl) (put_own h hb (by omega) 9))
  have A6 : Hid (∀ W, Live (since w.heap.size W) w.heap.size k4 5 W → Calls Try.prog 16 #[.pointer (some ⟨w.heap.size, 0, none⟩), .int .i64 6] W fun e w' => e = .returned (.tuple #[.agg #[.int .i64 2, .int .i64 5, .int .i64 2], .bool true]) ∧ Below W.heap.size W w') := Lib.hid (fun W h => at_live h (by omega) 6)
  have A8 : Hid (∀ W, Live (since w.heap.size W) w.heap.size k4 5 W → Calls Try.prog 16 #[.pointer (some ⟨w.heap.size, 0, none⟩), .int .i64 8] W fun e w' => e = .returned (.tuple #[.agg #[.int .i64 0, .int .i64 0, .int .i64 0], .bool false]) ∧ Below W.heap.size W w') := Lib.hid (fun W h => at_live h (by omega) 8)
  have S5 : Hid (∀ W, Live (since w.heap.size W) w.heap.size k4 5 W → Calls Try.prog 18 #[.pointer (some ⟨w.heap.size, 0, none⟩), .int .i64 5] W (SinceSaid W [(5, false), (7, true), (9, false)])) := Lib.hid (fun W h => since_live h (by omega) 5)
  have C8 : Hid (∀ W, Live (since w.heap.size W) w.heap.size k4 5 W → w.heap.size ≤ W.heap.size → Calls Try.prog 23 #[.pointer (some ⟨w.heap.size, 0, none⟩), .int .i64 8] W (OwnAfter w.heap.size w.heap.size W (.bool true) (compK k4 8) 6)) := Lib.hid (fun W h hb => own_refl (by rfl) (by rfl) (comp_own h hb (by omega) 8))
  have L9 : Hid (∀ W, Live (since w.heap.size W) w.heap.size (compK k4 8) 6 W → Calls Try.prog 15 #[.pointer (some ⟨w.heap.size, 0, none⟩)] W fun e w' => e = .returned (.int .i64 9) ∧ w' = W) := Lib.hid (fun W h => last_live h)
  go_enter Try.func21, Try.ntmps21
  go_wp2_with (
    first
    | (go_at_call 9; (with_reducible refine HN.out.mono ?_); rintro e w1 ⟨rfl, l1, B1⟩; have s1 := B1.size)
    | (go_at_call 25; (with_reducible refine (P2.out _ l1 s1).mono ?_); rintro e w2 ⟨rfl, l2, b2⟩; have B2 := B1.trans b2; have s2 := B2.size; clear b2)
    | (go_at_call 25; (with_reducible refine (P5.out _ l2 s2).mono ?_); rintro e w3 ⟨rfl, l3, b3⟩; have B3 := B2.trans b3; have s3 := B3.size; clear b3)
    | (go_at_call 24; (with_reducible refine (T7.out _ l3 s3).mono ?_); rintro e w4 ⟨rfl, l4, b4⟩; have B4 := B3.trans b4; have s4 := B4.size; clear b4)
    | (go_at_call 24; (with_reducible refine (T8.out _ l4 s4).mono ?_); rintro e w5 ⟨rfl, l5, b5⟩; have B5 := B4.trans b5; have s5 := B5.size; clear b5)
    | (go_at_call 25; (with_reducible refine (P9.out _ l5 s5).mono ?_); rintro e w6 ⟨rfl, l6, b6⟩; have B6 := B5.trans b6; have s6 := B6.size; clear b6)
    | (go_at_call 16; (with_reducible refine (A6.out _ l6).mono ?_); rintro e w7 ⟨rfl, c7⟩; have d7 := alloc_below w7 (.cells #[.int .i64 2, .int .i64 5, .int .i64 2] SeenT); have l7 := (l6.later c7).later d7; have B7 := B6.trans ((c7.trans (d7.mono c7.size)).mono s6); have x7 := BlkAt.alloc_new w7 [.int .i64 2, .int .i64 5, .int .i64 2] SeenT; clear c7 d7)
    | (go_at_call 16; (with_reducible refine (A8.out _ l7).mono ?_); rintro e w8 ⟨rfl, c8⟩; have d8 := alloc_below w8 (.cells #[.int .i64 0, .int .i64 0, .int .i64 0] SeenT); have l8 := (l7.later c8).later d8; have B8 := B7.trans ((c8.trans (d8.mono c8.size)).mono B7.size); have x8 := (x7.grew c8).grew d8; clear c8 d8 x7)
    | (go_at_call 18; (with_reducible refine (S5.out _ l8).mono ?_); rintro e w9 ⟨v9, rfl, g9⟩; have l9 := l8.later g9.below; have B9 := B8.trans (g9.below.mono B8.size); have s9 := B9.size; have x9 := x8.grew g9.below; obtain ⟨a9, c9, rfl⟩ := own_slice g9.own; obtain ⟨_, gb, _, rfl, hc9⟩ := got_cell g9 (by simp); have z9 := (hc9 1 (by simp)).2.1; have y0 := x9.cell (i := 0) rfl; have y1 := x9.cell (i := 1) rfl; have y2 := x9.cell (i := 2) rfl; clear hc9 g9 x8)
    | (go_at_call 23; (with_reducible refine (C8.out _ l9 s9).mono ?_); rintro e w10 ⟨rfl, l10, b10⟩; have B10 := B9.trans b10; clear b10)
    | (go_at_call 15; (with_reducible refine (L9.out _ l10).mono ?_); rintro e w11 ⟨rfl, rfl⟩))
  go_ret
  exact ⟨rfl, B10⟩
end Go.Proofs.Ytnliapdhmjljiaa
