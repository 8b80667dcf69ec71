/- The law GensPlays, walked: its rounds. Conditions: as each theorem says. -/
import Derived.Test.YtnliapdhmjljiaaGenPl
import Derived.Deep.RegionHeld3
namespace Go.Proofs.Ytnliapdhmjljiaa
open Go.RowKit

theorem stepK_tomb (s : Ks) (k rev : Int) (h : k % 6 = 3 ∨ k % 6 = 4) : stepK s (k, rev) = ((tombK s rev).1, (tombK s rev).2, false) := by unfold stepK; rw [if_pos h]
theorem stepK_comp (s : Ks) (k rev : Int) (h : k % 6 = 5) : stepK s (k, rev) = (compK s rev, 0, decide ((compK s rev).gs ≠ [])) := by unfold stepK; rw [if_neg (by simp only; omega), if_pos h]
theorem stepK_put (s : Ks) (k rev : Int) (h : k % 6 ≠ 3 ∧ k % 6 ≠ 4 ∧ k % 6 ≠ 5) : stepK s (k, rev) = ((putK s rev).1, (putK s rev).2, false) := by unfold stepK; rw [if_neg (by simp only; omega), if_neg (by simp only; omega)]
section
variable {base kb b6 n : Nat} {s s' : Ks} {F : Nat → Prop} {u : Value} {w0 W : World}
theorem tomb_play (h : Play base kb b6 s s n F u w0 W) (hi : InvK s) (hn : n ≤ 1000) (rev : Int) : Calls Try.prog 11 #[.agg #[u, .int .i64 s.last], .int .i64 rev] W (RefSaid base W u (refK (tombK s rev).1) (tombK s rev).2) := by
  have := refTomb_any base (refK s) rev u W h.row (flat_asc s.gs 0 (Int.le_refl _) hi.1) (by have := flat_len s.gs; have := h.live.fit.1; show (flat s.gs).length ≤ _; omega) h.size
  rw [tomb_sim hi rev] at this
  exact this
theorem put_play (h : Play base kb b6 s s n F u w0 W) (hi : InvK s) (hn : n ≤ 1000) (rev : Int) : Calls Try.prog 13 #[.agg #[u, .int .i64 s.last], .int .i64 rev] W (RefSaid base W u (refK (putK s rev).1) (putK s rev).2) := by
  have hv := atR_ver h.live.fit rev
  have := refPut_any base (refK s) rev u W h.row (flat_asc s.gs 0 (Int.le_refl _) hi.1) (by have := flat_len s.gs; have := h.live.fit.1; show (flat s.gs).length ≤ _; omega) ⟨hv.1, by show (atR (flat s.gs) rev).ver ≤ _; omega⟩ h.size
  rw [put_sim hi rev] at this
  exact this
theorem comp_play (h : Play base kb b6 s s n F u w0 W) (hi : InvK s) (hn : n ≤ 1000) (rev : Int) : Calls Try.prog 12 #[.agg #[u, .int .i64 s.last], .int .i64 rev] W fun e w' => ∃ v, e = .returned (.agg #[v, .int .i64 s.last]) ∧ GrowR base v (flat (compK s rev).gs) w' ∧ (∀ g, v.ownBlock = some g → v = u ∨ W.heap.size ≤ g) ∧ Below W.heap.size W w' := by
  have := refComp_any base (refK s) rev u W h.row (flat_asc s.gs 0 (Int.le_refl _) hi.1) (by have := flat_len s.gs; have := h.live.fit.1; show (flat s.gs).length ≤ _; omega) h.size
  rw [comp_sim hi rev] at this
  exact this.mono fun e w' ⟨v, h1, h2, h3, h4⟩ => ⟨v, h1, h2, fun g hg => .inr (h3 g hg), h4⟩
theorem last_play (h : Play base kb b6 s s' n F u w0 W) : Calls Try.prog 15 #[.pointer (some ⟨kb, 0, none⟩)] W fun e w' => e = .returned (.int .i64 s.last) ∧ Below W.heap.size W w' :=
  (last_live h.live).mono fun e w' k => ⟨k.1, by rw [k.2]; exact Below.refl _ _⟩
end
theorem since_play {base kb b6 n : Nat} {s s' : Ks} {F : Nat → Prop} {u : Value} {w0 W : World} (h : Play base kb b6 s s' n F u w0 W) (hn : n ≤ 1000) (rev : Int) (M : List Ch) (hM : sinceG s.gs rev = M.map pairC) : Calls Try.prog 18 #[.pointer (some ⟨kb, 0, none⟩), .int .i64 rev] W fun e w' => ∃ v, e = .returned v ∧ Grow ChgT 2 chgCells W.heap.size v (M.map pairC) w' ∧ Below W.heap.size W w' := by
  rw [← hM]
  exact (since_live h.live hn rev).mono fun e w' ⟨v, k1, k2⟩ => ⟨v, k1, k2.own, k2.below⟩
theorem Play.set {base kb b6 n g : Nat} {s s' : Ks} {F : Nat → Prop} {u : Value} {w0 W : World} (h : Play base kb b6 s s' n F u w0 W) (hF : ¬ F g) (h6 : g ≠ b6) (hu : ∀ k, u.ownBlock = some k → k ≠ g) (hb : base ≤ g) (i : Nat) (x : Value) : Play base kb b6 s s' n F u w0 (W.setCell ⟨g, i, none⟩ x) := by
  have hA : Apart (fun j => j = g) W (W.setCell ⟨g, i, none⟩ x) := Apart.set (F := fun j => j = g) W g i x rfl
  refine ⟨h.live.apart hA (fun j hj => by subst hj; exact hF), h.k6.grown (grown_set W g i x) (fun e => by simp only [Option.some.injEq] at e; exact h6 e.symm), ?_, h.n6, h.nu, h.low, h.lo6, h.below.trans (hA.below h.size (fun j hj => by subst hj; exact hb)), Nat.le_trans h.size hA.size⟩
  exact World.ownsRow.kept h.row (grown_set W g i x) (Or.inr (fun e => hu _ e rfl))
/-- The list that the law overwrites. -/
def Rows7 (a : Option Addr) (m lo : Nat) (W : World) : Prop := 0 < m → ∃ (g : Nat) (cs : List Value), a = some ⟨g, 0, none⟩ ∧ lo ≤ g ∧ BlkAt g ChgT cs W ∧ m * 2 ≤ cs.length
theorem rows7_of {a : Option Addr} {c lo n : Nat} {L : List (Int × Bool)} {W : World} (h : Grow ChgT 2 chgCells lo (.slice a n c) L W) (hnl : n = L.length) : Rows7 a n lo W := by
  subst hnl
  intro hn
  rcases h.2 with ⟨_, h0⟩ | ⟨g, cap, cur, hv, hg, hh, hn', hm, hs, hx⟩
  · omega
  · simp only [Value.slice.injEq] at hv
    obtain ⟨rfl, _, rfl⟩ := hv
    refine ⟨g, cur.toList, rfl, hg, by unfold BlkAt; simpa using hh, ?_⟩
    simp only [Array.length_toList, hs]
    exact Nat.mul_le_mul_right 2 hn'
theorem Rows7.grew {a : Option Addr} {m lo : Nat} {W W' : World} (h : Rows7 a m lo W) (hb : Below W.heap.size W W') : Rows7 a m lo W' := fun hn => by
  obtain ⟨g, cs, h1, h2, h3, h4⟩ := h hn
  exact ⟨g, cs, h1, h2, h3.grew hb, h4⟩
set_option maxRecDepth 100000 in
set_option maxHeartbeats 4000000 in
theorem plays_any (a : Option Addr) (c : Nat) (ops : List (Int × Int)) (rev : Int) (w : World) (h : RowsAt 2 opCells w (.slice a ops.length c) ops) (hl : ops.length ≤ 9223372036854775807) :
    Calls Try.prog 3 #[.slice a ops.length c, .int .i64 rev] w fun e w' => e = .returned (.bool true) ∧ Below w.heap.size w w' := by
  have HO := Lib.hid h
  have HK := Lib.hid (fun (o : Int × Int) W => kind_any o.1 o.2 W)
  have HAw := Lib.hid (fun W => awake_any W)
  have HN := Lib.hid (fun W => new_live W)
  clear h
  go_enter Try.func3, Try.ntmps3
  go_wp2_with (go_at_call 9; (with_reducible refine (HN.out _).mono ?_); rintro e w1 ⟨rfl, hl1, hb1⟩)
  have hP0 : Play w.heap.size w.heap.size w1.heap.size newK newK 0 (fun b => w.heap.size ≤ b ∧ b < w1.heap.size) (.slice none 0 0) w (w1.alloc (.cells #[.slice none 0 0, .int .i64 0] RkT)) :=
    ⟨hl1.grew (alloc_below w1 _), BlkAt.alloc_new w1 [.slice none 0 0, .int .i64 0] RkT, Grow.nil _, fun hf => by omega, fun g hg => by simp [Value.ownBlock] at hg, fun i hi => hi.1, hb1.size, hb1.alloc hb1.size _, by have := hb1.size; simp; omega⟩
  have hb6 := hb1.size
  clear hl1 hb1
  generalize w1.alloc (.cells #[.slice none 0 0, .int .i64 0] RkT) = wb at *
  generalize w1.heap.size = b6 at *
  go_loopw [7] (fun iv W => ∃ (k : Nat) (F : Nat → Prop) (u : Value), k ≤ ops.length ∧ k ≤ 200 ∧ iv = .int .i64 (k : Int) ∧ Play w.heap.size w.heap.size b6 (runK (ops.take k)) (runK (ops.take k)) k F u w W) (fun iv _ => 200 - (intOf iv).toNat)
  case atStart => exact ⟨0, _, _, Nat.zero_le _, by omega, rfl, hP0⟩
  case round =>
    obtain ⟨k, F, u, hk, hk2, rfl, hP⟩ := hrel
    have hinv := inv_run (ops.take k)
    clear hP0
    by_cases hc : k < ops.length ∧ k < 200
    · obtain ⟨hlt, h2⟩ := hc
      obtain ⟨b, off, rfl, hr⟩ := (HO.out.grew (hP.below.mono (Nat.le_refl _))).get k hlt
      have HT := Lib.hid (runK_take ops k hlt)
      have c0 : wr.cell? ⟨b, off + k * 2, none⟩ = some (.int .i64 ops[k].1) := hr 0 _ rfl
      have c1 : wr.cell? ⟨b, off + k * 2 + 1, none⟩ = some (.int .i64 ops[k].2) := hr 1 _ rfl
      have hd2 : decide ((k : Int) < 200) = true := decide_eq_true (by omega)
      clear hr HO
      generalize ops[k] = o at *
      generalize runK (ops.take k) = s at *
      obtain ⟨ok, orev⟩ := o
      simp only at c0 c1
      have HKk := Lib.hid (fun W => HK.out (ok, orev) W)
      simp only at HKk
      obtain ⟨ua, uc, rfl⟩ := hP.row.slice
      have h86 : b6 < wr.heap.size := hP.k6.lt
      have hP1 := hP.later (alloc_below wr (.cells #[.int .i64 ok, .int .i64 orev] OpT))
      have hx8 := BlkAt.alloc_new wr [.int .i64 ok, .int .i64 orev] OpT
      have X8 := Lib.hid hx8
      have P1 := Lib.hid hP1
      have x0 := hx8.cell (i := 0) rfl
      have x1 := hx8.cell (i := 1) rfl
      have hk6 : 0 ≤ ok % 6 ∧ ok % 6 < 6 := by omega
      clear hP hP1 hx8
      rcases (show ok % 6 = 3 ∨ ok % 6 = 4 ∨ ok % 6 = 5 ∨ (ok % 6 ≠ 3 ∧ ok % 6 ≠ 4 ∧ ok % 6 ≠ 5) by omega) with h3 | h3 | h3 | h3
      · have hs := stepK_tomb s ok orev (.inl h3)
        rw [hs] at HT
        have HD : Hid (∀ s' F u W, Play w.heap.size w.heap.size b6 s s' k F u w W → Calls Try.prog 14 #[.pointer (some ⟨w.heap.size, 0, none⟩), .agg #[.int .i64 ok, .int .i64 orev]] W (LiveAfter F w.heap.size W (.tuple #[.int .i64 (tombK s orev).2, .bool false]) ((tombK s orev).1) (k + 1))) := Lib.hid (fun s' F u W hW => by have := do_any hW.live (by omega) (ok, orev); unfold doV at this; rw [hs] at this; exact this)
        have HR := Lib.hid (fun F u W (hW : Play w.heap.size w.heap.size b6 s s k F u w W) => tomb_play hW hinv (by omega) orev)
        clear hs hinv
        rw [h3] at HKk
        clear h3
        generalize (tombK s orev).2 = code at *
        generalize (tombK s orev).1 = t at *
        simp only [refK] at HR
        go_wp2_with (
          first
          | (go_at_call 10; (with_reducible refine (HKk.out _).mono ?_); rintro e w2 ⟨rfl, hb2⟩; have P2 := Lib.hid (P1.out.later hb2); have X82 := Lib.hid (X8.out.grew hb2); have x1 := X82.out.cell (i := 1) rfl; have q0 := P2.out.k6.cell (i := 0) rfl; have q1 := P2.out.k6.cell (i := 1) rfl; clear hb2)
          | (go_at_call 11; (with_reducible refine (HR.out _ _ _ P2.out).mono ?_); rintro e w3 ⟨v3, rfl, hG3, hfr3, hb3⟩; obtain ⟨a3, n3, rfl⟩ := hG3.slice; have P3 := P2.out.later hb3; have X83 := X82.out.grew hb3; have q0 := P3.k6.cell (i := 0) rfl; have q1 := P3.k6.cell (i := 1) rfl; have f0 := P3.k6.frozen 0; have f1 := P3.k6.frozen 1; have P4 := P3.stored (t := t) hG3 (P2.out.fresh hfr3); have X84 := (X83.grown (grown_set w3 b6 0 (.slice a3 (flat t.gs).length n3)) (by intro e; simp only [Option.some.injEq] at e; omega)).grown (grown_set _ b6 1 (.int .i64 t.last)) (by intro e; simp only [Option.some.injEq] at e; omega); have x0 := X84.cell (i := 0) rfl; have x1 := X84.cell (i := 1) rfl; have P4 := Lib.hid P4; have q0' := P4.out.k6.cell (i := 0) rfl; clear hb3 P3 hfr3 hG3 X83 X84)
          | (go_at_call 14; (with_reducible refine (HD.out _ _ _ _ P4.out).mono ?_); rintro e w5 hL5; obtain ⟨rfl, P5⟩ := P4.out.did hL5; have P5 := Lib.hid P5; clear hL5))
        have z1 := P5.out.k6.cell (i := 1) rfl
        have HL := Lib.hid (fun W hW => last_play (P5.out.in_ (W' := W) hW))
        clear q0 q1 f0 f1 q0' x0 x1 c0 c1
        have hex := Grew.all w5
        refine wp_region_grew (by kernel_rfl) (by kernel_rfl) ?_
        repeat (first | go_big_quiet_skip | (go_big_quiet_want; first | (refine quiet_load_cell 3 _ rfl ⟨b6, 1, none⟩ rfl _ _ Try.underlying3 rfl (fun W hW => Grew.cell hW z1) ?_; simp only [Act.put, List.setIfInBounds_toArray, List.set_cons_succ, List.set_cons_zero]; go_big_quiet_on) | (go_big_quiet_op; first | go_big_quiet_on | (apply Exists.intro; refine ⟨fun W hW => ?_, ?_⟩; (first | exact rfl | (go_at_call 15; with_reducible exact Calls.grew hW (HL.out _ hW))); go_big_quiet_on))))
        refine wpQuiet_nil ?_
        intro w6 hw6
        have P6 := Lib.hid (P5.out.in_ hw6)
        clear hex hw6 z1 HL
        go_wp2
        go_roundw
        case rel => exact ⟨k + 1, _, _, hlt, by omega, by go_num, by rw [HT.out]; exact P6.out⟩
        case measure => simp [intOf]; omega
      · have hs := stepK_tomb s ok orev (.inr h3)
        rw [hs] at HT
        have HD : Hid (∀ s' F u W, Play w.heap.size w.heap.size b6 s s' k F u w W → Calls Try.prog 14 #[.pointer (some ⟨w.heap.size, 0, none⟩), .agg #[.int .i64 ok, .int .i64 orev]] W (LiveAfter F w.heap.size W (.tuple #[.int .i64 (tombK s orev).2, .bool false]) ((tombK s orev).1) (k + 1))) := Lib.hid (fun s' F u W hW => by have := do_any hW.live (by omega) (ok, orev); unfold doV at this; rw [hs] at this; exact this)
        have HR := Lib.hid (fun F u W (hW : Play w.heap.size w.heap.size b6 s s k F u w W) => tomb_play hW hinv (by omega) orev)
        clear hs hinv
        rw [h3] at HKk
        clear h3
        generalize (tombK s orev).2 = code at *
        generalize (tombK s orev).1 = t at *
        simp only [refK] at HR
        go_wp2_with (
          first
          | (go_at_call 10; (with_reducible refine (HKk.out _).mono ?_); rintro e w2 ⟨rfl, hb2⟩; have P2 := Lib.hid (P1.out.later hb2); have X82 := Lib.hid (X8.out.grew hb2); have x1 := X82.out.cell (i := 1) rfl; have q0 := P2.out.k6.cell (i := 0) rfl; have q1 := P2.out.k6.cell (i := 1) rfl; clear hb2)
          | (go_at_call 11; (with_reducible refine (HR.out _ _ _ P2.out).mono ?_); rintro e w3 ⟨v3, rfl, hG3, hfr3, hb3⟩; obtain ⟨a3, n3, rfl⟩ := hG3.slice; have P3 := P2.out.later hb3; have X83 := X82.out.grew hb3; have q0 := P3.k6.cell (i := 0) rfl; have q1 := P3.k6.cell (i := 1) rfl; have f0 := P3.k6.frozen 0; have f1 := P3.k6.frozen 1; have P4 := P3.stored (t := t) hG3 (P2.out.fresh hfr3); have X84 := (X83.grown (grown_set w3 b6 0 (.slice a3 (flat t.gs).length n3)) (by intro e; simp only [Option.some.injEq] at e; omega)).grown (grown_set _ b6 1 (.int .i64 t.last)) (by intro e; simp only [Option.some.injEq] at e; omega); have x0 := X84.cell (i := 0) rfl; have x1 := X84.cell (i := 1) rfl; have P4 := Lib.hid P4; have q0' := P4.out.k6.cell (i := 0) rfl; clear hb3 P3 hfr3 hG3 X83 X84)
          | (go_at_call 14; (with_reducible refine (HD.out _ _ _ _ P4.out).mono ?_); rintro e w5 hL5; obtain ⟨rfl, P5⟩ := P4.out.did hL5; have P5 := Lib.hid P5; clear hL5))
        have z1 := P5.out.k6.cell (i := 1) rfl
        have HL := Lib.hid (fun W hW => last_play (P5.out.in_ (W' := W) hW))
        clear q0 q1 f0 f1 q0' x0 x1 c0 c1
        have hex := Grew.all w5
        refine wp_region_grew (by kernel_rfl) (by kernel_rfl) ?_
        repeat (first | go_big_quiet_skip | (go_big_quiet_want; first | (refine quiet_load_cell 3 _ rfl ⟨b6, 1, none⟩ rfl _ _ Try.underlying3 rfl (fun W hW => Grew.cell hW z1) ?_; simp only [Act.put, List.setIfInBounds_toArray, List.set_cons_succ, List.set_cons_zero]; go_big_quiet_on) | (go_big_quiet_op; first | go_big_quiet_on | (apply Exists.intro; refine ⟨fun W hW => ?_, ?_⟩; (first | exact rfl | (go_at_call 15; with_reducible exact Calls.grew hW (HL.out _ hW))); go_big_quiet_on))))
        refine wpQuiet_nil ?_
        intro w6 hw6
        have P6 := Lib.hid (P5.out.in_ hw6)
        clear hex hw6 z1 HL
        go_wp2
        go_roundw
        case rel => exact ⟨k + 1, _, _, hlt, by omega, by go_num, by rw [HT.out]; exact P6.out⟩
        case measure => simp [intOf]; omega
      · have hs := stepK_comp s ok orev h3
        rw [hs] at HT
        have HD : Hid (∀ s' F u W, Play w.heap.size w.heap.size b6 s s' k F u w W → Calls Try.prog 14 #[.pointer (some ⟨w.heap.size, 0, none⟩), .agg #[.int .i64 ok, .int .i64 orev]] W (LiveAfter F w.heap.size W (.tuple #[.int .i64 0, .bool (decide (0 < (flat (compK s orev).gs).length))]) (compK s orev) (k + 1))) := Lib.hid (fun s' F u W hW => by have := do_any hW.live (by omega) (ok, orev); unfold doV at this; rw [hs] at this; simp only at this; rw [comp_any hinv orev] at this; exact this)
        have HR := Lib.hid (fun F u W (hW : Play w.heap.size w.heap.size b6 s s k F u w W) => comp_play hW hinv (by omega) orev)
        clear hs hinv
        rw [h3] at HKk
        clear h3
        have hlast : (compK s orev).last = s.last := rfl
        generalize compK s orev = t at *
        go_wp2_with (
          first
          | (go_at_call 10; (with_reducible refine (HKk.out _).mono ?_); rintro e w2 ⟨rfl, hb2⟩; have P2 := Lib.hid (P1.out.later hb2); have X82 := Lib.hid (X8.out.grew hb2); have x1 := X82.out.cell (i := 1) rfl; have q0 := P2.out.k6.cell (i := 0) rfl; have q1 := P2.out.k6.cell (i := 1) rfl; clear hb2)
          | (go_at_call 12; (with_reducible refine (HR.out _ _ _ P2.out).mono ?_); rintro e w3 ⟨v3, rfl, hG3, hfr3, hb3⟩; obtain ⟨a3, n3, rfl⟩ := hG3.slice; have P3 := P2.out.later hb3; have X83 := X82.out.grew hb3; have q0 := P3.k6.cell (i := 0) rfl; have q1 := P3.k6.cell (i := 1) rfl; have f0 := P3.k6.frozen 0; have f1 := P3.k6.frozen 1; have P4 := P3.stored (t := t) hG3 (P2.out.fresh hfr3); rw [hlast] at P4; have X84 := (X83.grown (grown_set w3 b6 0 (.slice a3 (flat t.gs).length n3)) (by intro e; simp only [Option.some.injEq] at e; omega)).grown (grown_set _ b6 1 (.int .i64 s.last)) (by intro e; simp only [Option.some.injEq] at e; omega); have x0 := X84.cell (i := 0) rfl; have x1 := X84.cell (i := 1) rfl; have P4 := Lib.hid P4; have q0' := P4.out.k6.cell (i := 0) rfl; clear hb3 P3 hfr3 hG3 X83 X84)
          | (go_at_call 14; (with_reducible refine (HD.out _ _ _ _ P4.out).mono ?_); rintro e w5 hL5; obtain ⟨rfl, P5⟩ := P4.out.did hL5; have P5 := Lib.hid P5; clear hL5))
        have z1 := P5.out.k6.cell (i := 1) rfl
        have HL := Lib.hid (fun W hW => last_play (P5.out.in_ (W' := W) hW))
        rw [hlast] at z1 HL
        clear q0 q1 f0 f1 q0' x0 x1 c0 c1
        have hex := Grew.all w5
        refine wp_region_grew (by kernel_rfl) (by kernel_rfl) ?_
        repeat (first | go_big_quiet_skip | (go_big_quiet_want; first | (refine quiet_load_cell 3 _ rfl ⟨b6, 1, none⟩ rfl _ _ Try.underlying3 rfl (fun W hW => Grew.cell hW z1) ?_; simp only [Act.put, List.setIfInBounds_toArray, List.set_cons_succ, List.set_cons_zero]; go_big_quiet_on) | (go_big_quiet_op; first | go_big_quiet_on | (apply Exists.intro; refine ⟨fun W hW => ?_, ?_⟩; (first | exact rfl | (go_at_call 15; with_reducible exact Calls.grew hW (HL.out _ hW))); go_big_quiet_on))))
        refine wpQuiet_nil ?_
        intro w6 hw6
        have P6 := Lib.hid (P5.out.in_ hw6)
        clear hex hw6 z1 HL
        go_wp2
        go_roundw
        case rel => exact ⟨k + 1, _, _, hlt, by omega, by go_num, by rw [HT.out]; exact P6.out⟩
        case measure => simp [intOf]; omega
      · have hs := stepK_put s ok orev h3
        rw [hs] at HT
        have HD : Hid (∀ s' F u W, Play w.heap.size w.heap.size b6 s s' k F u w W → Calls Try.prog 14 #[.pointer (some ⟨w.heap.size, 0, none⟩), .agg #[.int .i64 ok, .int .i64 orev]] W (LiveAfter F w.heap.size W (.tuple #[.int .i64 (putK s orev).2, .bool false]) ((putK s orev).1) (k + 1))) := Lib.hid (fun s' F u W hW => by have := do_any hW.live (by omega) (ok, orev); unfold doV at this; rw [hs] at this; exact this)
        have HR := Lib.hid (fun F u W (hW : Play w.heap.size w.heap.size b6 s s k F u w W) => put_play hW hinv (by omega) orev)
        clear hs hinv
        obtain ⟨h3, h4, h5⟩ := h3
        have d3 : (ok % 6 == 3) = false := by rw [beq_eq_false_iff_ne]; exact h3
        have d4 : (ok % 6 == 4) = false := by rw [beq_eq_false_iff_ne]; exact h4
        have d5 : (ok % 6 == 5) = false := by rw [beq_eq_false_iff_ne]; exact h5
        clear h4 h5
        generalize ok % 6 = kk at *
        clear h3
        generalize (putK s orev).2 = code at *
        generalize (putK s orev).1 = t at *
        simp only [refK] at HR
        go_wp2_with (
          first
          | (go_at_call 10; (with_reducible refine (HKk.out _).mono ?_); rintro e w2 ⟨rfl, hb2⟩; have P2 := Lib.hid (P1.out.later hb2); have X82 := Lib.hid (X8.out.grew hb2); have x1 := X82.out.cell (i := 1) rfl; have q0 := P2.out.k6.cell (i := 0) rfl; have q1 := P2.out.k6.cell (i := 1) rfl; clear hb2)
          | (go_at_call 13; (with_reducible refine (HR.out _ _ _ P2.out).mono ?_); rintro e w3 ⟨v3, rfl, hG3, hfr3, hb3⟩; obtain ⟨a3, n3, rfl⟩ := hG3.slice; have P3 := P2.out.later hb3; have X83 := X82.out.grew hb3; have q0 := P3.k6.cell (i := 0) rfl; have q1 := P3.k6.cell (i := 1) rfl; have f0 := P3.k6.frozen 0; have f1 := P3.k6.frozen 1; have P4 := P3.stored (t := t) hG3 (P2.out.fresh hfr3); have X84 := (X83.grown (grown_set w3 b6 0 (.slice a3 (flat t.gs).length n3)) (by intro e; simp only [Option.some.injEq] at e; omega)).grown (grown_set _ b6 1 (.int .i64 t.last)) (by intro e; simp only [Option.some.injEq] at e; omega); have x0 := X84.cell (i := 0) rfl; have x1 := X84.cell (i := 1) rfl; have P4 := Lib.hid P4; have q0' := P4.out.k6.cell (i := 0) rfl; clear hb3 P3 hfr3 hG3 X83 X84)
          | (go_at_call 14; (with_reducible refine (HD.out _ _ _ _ P4.out).mono ?_); rintro e w5 hL5; obtain ⟨rfl, P5⟩ := P4.out.did hL5; have P5 := Lib.hid P5; clear hL5))
        have z1 := P5.out.k6.cell (i := 1) rfl
        have HL := Lib.hid (fun W hW => last_play (P5.out.in_ (W' := W) hW))
        clear q0 q1 f0 f1 q0' x0 x1 c0 c1
        have hex := Grew.all w5
        refine wp_region_grew (by kernel_rfl) (by kernel_rfl) ?_
        repeat (first | go_big_quiet_skip | (go_big_quiet_want; first | (refine quiet_load_cell 3 _ rfl ⟨b6, 1, none⟩ rfl _ _ Try.underlying3 rfl (fun W hW => Grew.cell hW z1) ?_; simp only [Act.put, List.setIfInBounds_toArray, List.set_cons_succ, List.set_cons_zero]; go_big_quiet_on) | (go_big_quiet_op; first | go_big_quiet_on | (apply Exists.intro; refine ⟨fun W hW => ?_, ?_⟩; (first | exact rfl | (go_at_call 15; with_reducible exact Calls.grew hW (HL.out _ hW))); go_big_quiet_on))))
        refine wpQuiet_nil ?_
        intro w6 hw6
        have P6 := Lib.hid (P5.out.in_ hw6)
        clear hex hw6 z1 HL
        go_wp2
        go_roundw
        case rel => exact ⟨k + 1, _, _, hlt, by omega, by go_num, by rw [HT.out]; exact P6.out⟩
        case measure => simp [intOf]; omega
    · have dex : decide (k < ops.length) = false ∨ (decide (k < ops.length) = true ∧ decide ((k : Int) < 200) = false) := by
        by_cases h1 : k < ops.length
        · exact .inr ⟨decide_eq_true h1, decide_eq_false (by omega)⟩
        · exact .inl (decide_eq_false h1)
      generalize runK (ops.take k) = s at *
      have hasc := flat_asc s.gs 0 (Int.le_refl _) hinv.1
      have hfl : (flat s.gs).length ≤ 100000 := by have := flat_len s.gs; have := hP.live.fit.1; omega
      have hM : sinceG s.gs rev = ((flat s.gs).filter fun c => decide (rev ≤ c.rev)).map pairC := since_eq rev s.gs
      have hml : ((flat s.gs).filter fun c => decide (rev ≤ c.rev)).length ≤ 100000 := Nat.le_trans (List.length_filter_le _ _) hfl
      have HA := Lib.hid (fun W (hW : Play w.heap.size w.heap.size b6 s s k F u w W) => at_live hW.live (by omega) rev)
      have HRA := Lib.hid (fun W (hW : Play w.heap.size w.heap.size b6 s s k F u w W) => refAt_any (flat s.gs) s.last rev u W (hW.row.rows ref_len) hasc (by omega))
      have HS := Lib.hid (fun W (hW : Play w.heap.size w.heap.size b6 s s k F u w W) => since_play hW (by omega) rev _ hM)
      have HRS := Lib.hid (fun W (hW : Play w.heap.size w.heap.size b6 s s k F u w W) => refSince_any (flat s.gs) s.last rev u W (hW.row.rows ref_len) hfl)
      generalize (flat s.gs).filter (fun c => decide (rev ≤ c.rev)) = M at *
      have HSa := Lib.hid (fun x y W h1 h2 => same_any M x y W h1 h2 hml)
      generalize atR (flat s.gs) rev = ch at *
      unfold chV at HA
      unfold refV at HRA
      obtain ⟨ua, uc, hu⟩ := hP.row.slice
      subst hu
      have HP := Lib.hid hP
      have q0 := hP.k6.cell (i := 0) rfl
      have q1 := hP.k6.cell (i := 1) rfl
      have hln : (M.map pairC).length = M.length := by simp
      clear hP hinv hasc hfl hM HO HK HN hc
      rcases dex with d1 | ⟨d1, d2⟩
      all_goals
        go_wp2_with (
          first
          | (go_at_call 16; (with_reducible refine (HA.out _ HP.out).mono ?_); rintro e w2 ⟨rfl, b2⟩; have c2 := alloc_below w2 (.cells #[.int .i64 ch.cr, .int .i64 ch.rev, .int .i64 ch.ver] SeenT); have s2 := BlkAt.alloc_new w2 [.int .i64 ch.cr, .int .i64 ch.rev, .int .i64 ch.ver] SeenT; have P2 := Lib.hid ((HP.out.later b2).later c2); have q0 := P2.out.k6.cell (i := 0) rfl; have q1 := P2.out.k6.cell (i := 1) rfl; clear b2 c2)
          | (go_at_call 17; (with_reducible refine (HRA.out _ P2.out).mono ?_); rintro e w3 ⟨rfl, b3⟩; have c3 := alloc_below w3 (.cells #[.int .i64 ch.rev, .int .i64 ch.cr, .int .i64 ch.ver, .bool ch.gone] RefT); have r3 := BlkAt.alloc_new w3 [.int .i64 ch.rev, .int .i64 ch.cr, .int .i64 ch.ver, .bool ch.gone] RefT; have s3 := (s2.grew b3).grew c3; have P3 := Lib.hid ((P2.out.later b3).later c3); clear b3 c3 s2)
          | (go_at_call 18; (with_reducible refine (HS.out _ P3.out).mono ?_); rintro e w4 ⟨v4, rfl, g4, b4⟩; obtain ⟨a4, n4, rfl⟩ := g4.slice; simp only [List.length_map] at g4; have P4 := Lib.hid (P3.out.later b4); have r4 := r3.grew b4; have s4 := s3.grew b4; have q0 := P4.out.k6.cell (i := 0) rfl; have q1 := P4.out.k6.cell (i := 1) rfl; have hlo4 := P3.out.live.lt; have hl6 := P3.out.k6.lt; have hlu := World.ownsRow.lt P3.out.row; have hlr := r3.lt; have hls := s3.lt; have hz4 := P3.out.size; clear b4 r3 s3)
          | (go_at_call 20; (with_reducible refine (HRS.out _ P4.out).mono ?_); rintro e w5 ⟨v5, rfl, g5, b5⟩; obtain ⟨a5, n5, rfl⟩ := g5.slice; have P5 := Lib.hid (P4.out.later b5); have r5 := r4.grew b5; have s5 := s4.grew b5; have g45 := g4.below b5; clear b5 r4 s4)
          | (go_at_call 19; (with_reducible refine (HSa.out _ _ _ (g45.rows chg_len) (g5.rows ref_len)).mono ?_); rintro e w6 ⟨rfl, b6'⟩; have P6 := Lib.hid (P5.out.later b6'); have r6 := Lib.hid (r5.grew b6'); have s6 := Lib.hid (s5.grew b6'); have R6 := Lib.hid (rows7_of (g45.below b6') hln.symm); clear b6' r5 s5 g4 g45 g5))
        have s60 := s6.out.cell (i := 0) rfl
        go_loopw [18] (fun iv W => ∃ i : Nat, i ≤ M.length ∧ iv = .int .i64 (i : Int) ∧ Play w.heap.size w.heap.size b6 s s k F (.slice ua (flat s.gs).length uc) w W ∧ BlkAt w2.heap.size SeenT [.int .i64 ch.cr, .int .i64 ch.rev, .int .i64 ch.ver] W ∧ BlkAt w3.heap.size RefT [.int .i64 ch.rev, .int .i64 ch.cr, .int .i64 ch.ver, .bool ch.gone] W ∧ Rows7 a4 M.length (w3.heap.size + 1) W) (fun iv _ => M.length - (intOf iv).toNat)
        case atStart => exact ⟨0, Nat.zero_le _, rfl, P6.out, s6.out, r6.out, by simpa using R6.out⟩
        case round =>
          obtain ⟨i, hi, rfl, hP7, hs7, hr7, hR7⟩ := hrel
          clear s60 q0 q1
          by_cases hil : i < M.length
          · obtain ⟨g, cs, rfl, hg, hcs, hl7⟩ := hR7 (by omega)
            have di : decide (i < M.length) = true := decide_eq_true hil
            have hx : cs[i * 2]? = some cs[i * 2] := List.getElem?_eq_getElem (by omega)
            have z0 := hcs.cell hx
            have f0 := hcs.frozen (i * 2)
            have HP8 := Lib.hid (hP7.set (g := g) (fun hf => by have := hlo4 g hf; simp at this; omega) (by simp at hl6; omega) (fun j hj e => by have := (hlu j hj).2; simp at this; omega) (by simp at hz4; omega) (i * 2) (.int .i64 (-7)))
            have HS8 := Lib.hid (hs7.grown (grown_set wr g (i * 2) (.int .i64 (-7))) (fun e => by simp only [Option.some.injEq] at e; simp at hls; omega))
            have HR8 := Lib.hid (hr7.grown (grown_set wr g (i * 2) (.int .i64 (-7))) (fun e => by simp only [Option.some.injEq] at e; simp at hlr; omega))
            have HC8 : Hid (Rows7 (some ⟨g, 0, none⟩) M.length (w3.heap.size + 1) (wr.setCell ⟨g, i * 2, none⟩ (.int .i64 (-7)))) := Lib.hid (fun _ => ⟨g, _, rfl, hg, hcs.set (i * 2) _, by rw [List.length_set]; exact hl7⟩)
            clear hP7 hs7 hr7 hR7 hcs hx
            go_wp2
            go_roundw
            case rel => exact ⟨i + 1, hil, by go_num, HP8.out, HS8.out, HR8.out, HC8.out⟩
            case measure => simp [intOf]; omega
          · have di : decide (i < M.length) = false := decide_eq_false hil
            have m0 := hP7.k6.cell (i := 0) rfl
            have m1 := hP7.k6.cell (i := 1) rfl
            have y0 := hs7.cell (i := 0) rfl
            have y1 := hs7.cell (i := 1) rfl
            have y2 := hs7.cell (i := 2) rfl
            have x0 := hr7.cell (i := 0) rfl
            have x1 := hr7.cell (i := 1) rfl
            have x2 := hr7.cell (i := 2) rfl
            have HP7 := Lib.hid hP7
            have hB : Below wr.heap.size wr wr.drew := (Below.refl _ wr).drew
            clear hP7 hs7 hr7 hR7 HA HRA P2 P3 P4 P5 P6 hlo4 hl6 hlu hlr hls R6 r6 s6
            go_wp2_with (fail)
            go_region_held3 (fun w' => w'.cell? ⟨b6, 0, none⟩ = some (.slice ua (flat s.gs).length uc) ∧ w'.cell? ⟨b6, 1, none⟩ = some (.int .i64 s.last) ∧ w'.cell? ⟨w2.heap.size, 0, none⟩ = some (.int .i64 ch.cr) ∧ w'.cell? ⟨w2.heap.size, 1, none⟩ = some (.int .i64 ch.rev) ∧ w'.cell? ⟨w2.heap.size, 2, none⟩ = some (.int .i64 ch.ver) ∧ w'.cell? ⟨w3.heap.size, 0, none⟩ = some (.int .i64 ch.rev) ∧ w'.cell? ⟨w3.heap.size, 1, none⟩ = some (.int .i64 ch.cr) ∧ w'.cell? ⟨w3.heap.size, 2, none⟩ = some (.int .i64 ch.ver))
              (exact ⟨Grew.cell hB m0, Grew.cell hB m1, Grew.cell hB y0, Grew.cell hB y1, Grew.cell hB y2, Grew.cell hB x0, Grew.cell hB x1, Grew.cell hB x2⟩)
              (first | (go_at_call 18; (with_reducible refine (HS.out _ (HP7.out.later hB)).mono ?_); rintro e wS ⟨vS, rfl, gS, bS⟩; obtain ⟨aS, nS, rfl⟩ := gS.slice; simp only [List.length_map] at gS; have hB := hB.trans (bS.mono hB.size)) | (go_at_call 20; (with_reducible refine (HRS.out _ (HP7.out.later hB)).mono ?_); rintro e wR ⟨vR, rfl, gR, bR⟩; obtain ⟨aR, nR, rfl⟩ := gR.slice; have gS := gS.below bR; have hB := hB.trans (bR.mono hB.size)) | (go_at_call 19; (with_reducible refine (HSa.out _ _ _ (gS.rows chg_len) (gR.rows ref_len)).mono ?_); rintro e wT ⟨rfl, bT⟩; have hB := hB.trans (bT.mono hB.size)) | (go_at_call 21; (with_reducible refine (HAw.out _).mono ?_); rintro e wU ⟨rfl, bU⟩; have hB := hB.trans (bU.mono hB.size)))
            all_goals
              go_wp2
              go_ret
              exact ⟨rfl, HP7.out.below.trans (hB.mono HP7.out.size)⟩
/-- THE LAW. -/
theorem gensPlays_walk (W : World) (v0 : Value) (rev : Int) (h0 : IsOps W v0) (w1 : (Lit.int .i64 rev).wf = true) :
    Calls Try.prog 3 #[v0, .int .i64 rev] W fun e w' => e = .returned (.bool true) ∧ Below W.heap.size W w' := by
  obtain ⟨L, a, c, rfl, h1, h2, h3, _⟩ := h0
  unfold maxLen at h2
  exact plays_any a c L rev W h3 (by omega)
end Go.Proofs.Ytnliapdhmjljiaa
