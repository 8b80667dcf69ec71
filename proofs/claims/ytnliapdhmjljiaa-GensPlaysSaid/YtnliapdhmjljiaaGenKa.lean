/- The law GensKeeps, walked. Conditions: as each theorem says. -/
import Derived.Test.YtnliapdhmjljiaaGenZ
namespace Go.Proofs.Ytnliapdhmjljiaa
open Go.RowKit

theorem since_all {s : Ks} (h : InvK s) (m : Int) (hm : m ≤ 1) : sinceG s.gs m = (flat s.gs).map fun c => (c.rev, c.gone) := by
  rw [since_eq]
  congr 1
  refine List.filter_eq_self.2 (fun c hc => ?_)
  have := (flat_top h c hc).1
  exact decide_eq_true (by omega)
theorem flat_comp {s : Ks} (h : InvK s) (mark : Int) : flat (compK s mark).gs = leftR (atR (flat s.gs) mark).rev mark (flat s.gs) := by
  have := comp_sim h mark
  exact (congrArg Rk.L this).symm
theorem comp_full {s : Ks} (h : InvK s) (mark : Int) : decide ((compK s mark).gs ≠ []) = decide (0 < (sinceG (compK s mark).gs (-4611686018427387904)).length) := by
  have hc := inv_comp h mark
  rw [since_all hc _ (by omega), List.length_map]
  by_cases hn : (compK s mark).gs = []
  · have := (flat_nil hc.1).2 hn
    rw [this, hn]; rfl
  · have : flat (compK s mark).gs ≠ [] := fun h0 => hn ((flat_nil hc.1).1 h0)
    rw [decide_eq_true hn, decide_eq_true (List.length_pos_iff.2 this)]
theorem comp_short {s : Ks} (h : InvK s) (mark : Int) : (sinceG (compK s mark).gs (-4611686018427387904)).length ≤ (sinceG s.gs (-4611686018427387904)).length := by
  rw [since_all (inv_comp h mark) _ (by omega), since_all h _ (by omega), List.length_map, List.length_map, flat_comp h mark]
  exact List.length_filter_le _ _
theorem comp_seen {s : Ks} (h : InvK s) (mark rev : Int) (hr : mark ≤ rev) : atR (flat (compK s mark).gs) rev = atR (flat s.gs) rev := by
  rw [flat_comp h mark]
  exact keeps_at _ _ _ (flat_asc s.gs 0 (Int.le_refl _) h.1) hr
theorem comp_since {s : Ks} (h : InvK s) (mark rev : Int) (hr : mark < rev) : sinceG (compK s mark).gs rev = sinceG s.gs rev := by
  rw [since_eq, since_eq, flat_comp h mark, keeps_since _ _ _ _ hr]
/-- What is left up to the mark. -/
structure OldAt (L : List (Int × Bool)) (mark : Int) (n : Nat) : Prop where
  len : n ≤ L.length
  one : n ≤ 1
  low : ∀ i (hi : i < L.length), i < n → L[i].1 ≤ mark ∧ L[i].2 = false
  high : ∀ i (hi : i < L.length), n ≤ i → mark < L[i].1
theorem comp_old {s : Ks} (h : InvK s) (mark : Int) : ∃ n, OldAt (sinceG (compK s mark).gs (-4611686018427387904)) mark n := by
  rw [since_all (inv_comp h mark) _ (by omega), flat_comp h mark]
  obtain ⟨X, B, e, h1, h2, h3⟩ := keeps_old (flat s.gs) mark (flat_asc s.gs 0 (Int.le_refl _) h.1)
  rw [e]
  refine ⟨X.length, by simp, h1, fun i hi hn => ?_, fun i hi hn => ?_⟩
  · simp only [List.getElem_map]
    rw [List.getElem_append_left hn]
    have := h2 _ (List.getElem_mem hn)
    exact ⟨this.2, this.1⟩
  · simp only [List.getElem_map]
    rw [List.getElem_append_right hn]
    exact h3 _ (List.getElem_mem _)
theorem comp_way {base kb n : Nat} {s : Ks} {w0 w : World} (h : Way base kb n s w0 w) (hn : n ≤ 1000) (hi : InvK s) (rev : Int) : Calls Try.prog 23 #[.pointer (some ⟨kb, 0, none⟩), .int .i64 rev] w fun e w' => e = .returned (.bool (decide (0 < (sinceG (compK s rev).gs (-4611686018427387904)).length))) ∧ Way base kb (n + 1) (compK s rev) w0 w' :=
  (comp_own h.live h.size hn rev).mono fun e w' k => by rw [comp_full hi rev] at k; exact h.after k
/-- The call under way, with what a call of the key may change. -/
structure Hold (F : Nat → Prop) (base kb n : Nat) (s : Ks) (w0 w : World) : Prop where
  live : Live F kb s n w
  below : Below base w0 w
  size : base ≤ w.heap.size
  low : ∀ i, F i → base ≤ i
section
variable {F : Nat → Prop} {base kb n : Nat} {s : Ks} {w0 w : World}
theorem Hold.later {w' : World} (h : Hold F base kb n s w0 w) (hb : Below w.heap.size w w') : Hold F base kb n s w0 w' := ⟨h.live.grew hb, h.below.trans (hb.mono h.size), Nat.le_trans h.size hb.size, h.low⟩
theorem Hold.boxed (h : Hold F base kb n s w0 w) (o : Obj) : Hold F base kb n s w0 (w.alloc o) := h.later (alloc_below w o)
theorem Hold.in_ {W : World} (h : Hold F base kb n s w0 w) (hW : Grew w W) : Hold F base kb n s w0 W := h.later hW
theorem at_hold (h : Hold F base kb n s w0 w) (hn : n ≤ 1000) (rev : Int) : Calls Try.prog 16 #[.pointer (some ⟨kb, 0, none⟩), .int .i64 rev] w fun e w' => e = .returned (chV (atR (flat s.gs) rev)) ∧ Hold F base kb n s w0 w' ∧ Below w.heap.size w w' :=
  (at_live h.live hn rev).mono fun e w' k => ⟨k.1, h.later k.2, k.2⟩
theorem since_hold (h : Hold F base kb n s w0 w) (hn : n ≤ 1000) (rev : Int) : Calls Try.prog 18 #[.pointer (some ⟨kb, 0, none⟩), .int .i64 rev] w fun e w' => ∃ v, e = .returned v ∧ Grow ChgT 2 chgCells w.heap.size v (sinceG s.gs rev) w' ∧ Hold F base kb n s w0 w' ∧ Below w.heap.size w w' :=
  (since_live h.live hn rev).mono fun e w' ⟨v, k1, k2⟩ => ⟨v, k1, k2.own, h.later k2.below, k2.below⟩
theorem last_hold (h : Hold F base kb n s w0 w) : Calls Try.prog 15 #[.pointer (some ⟨kb, 0, none⟩)] w fun e w' => e = .returned (.int .i64 s.last) ∧ Below w.heap.size w w' :=
  (last_live h.live).mono fun e w' k => ⟨k.1, by rw [k.2]; exact Below.refl _ _⟩
theorem comp_hold (h : Hold F base kb n s w0 w) (hn : n ≤ 1000) (hi : InvK s) (rev : Int) : Calls Try.prog 23 #[.pointer (some ⟨kb, 0, none⟩), .int .i64 rev] w fun e w' => e = .returned (.bool (decide (0 < (sinceG (compK s rev).gs (-4611686018427387904)).length))) ∧ Hold F base kb n (compK s rev) w0 w' ∧ Apart F w w' :=
  (comp_live h.live hn rev).mono fun e w' k => by
    rw [← comp_full hi rev]
    exact ⟨k.1, ⟨k.2.1, h.below.trans (k.2.2.below h.size h.low), Nat.le_trans h.size k.2.2.size, h.low⟩, k.2.2⟩
end
theorem done_hold (a : Option Addr) (c : Nat) (ops : List (Int × Int)) (w : World) (h : RowsAt 2 opCells w (.slice a ops.length c) ops) (hl : ops.length ≤ 9223372036854775807) : Calls Try.prog 22 #[.slice a ops.length c] w fun e w' => e = .returned (.pointer (some ⟨w.heap.size, 0, none⟩)) ∧ ∃ F, Hold F w.heap.size w.heap.size 200 (runK (ops.take 200)) w w' ∧ ∀ i, F i → i < w'.heap.size :=
  (done_any a c ops w h hl).mono fun e w' ⟨k1, k2, k3⟩ => ⟨k1, _, ⟨k2, k3, k3.size, fun i hi => hi.1⟩, fun i hi => hi.2⟩
theorem Grow.aside {α : Type} {T : TypeId} {k : Nat} {enc : α → List Value} {base : Nat} {v : Value} {L : List α} {w w' : World} {F : Nat → Prop} (h : Grow T k enc base v L w) (hA : Apart F w w') (hF : ∀ i, F i → i < base) : Grow T k enc base v L w' := by
  refine ownsRow_kept h (fun g hg => ?_)
  have hb := World.ownsRow.lt h g hg
  exact hA.block g hb.2 (fun hf => by have := hF g hf; omega)
theorem chg_len (x : Int × Bool) : (chgCells x).length = 2 := rfl
theorem chg_get {w : World} {a : Option Addr} {n c : Nat} {L : List (Int × Bool)} (h : RowsAt 2 chgCells w (.slice a n c) L) (i : Nat) (hi : i < L.length) : ∃ b off, a = some ⟨b, off, none⟩ ∧ w.cell? ⟨b, off + i * 2, none⟩ = some (.int .i64 L[i].1) ∧ w.cell? ⟨b, off + i * 2 + 1, none⟩ = some (.bool L[i].2) := by
  obtain ⟨a', c', hv, hr⟩ := h
  simp only [Value.slice.injEq] at hv
  obtain ⟨rfl, _, _⟩ := hv
  obtain ⟨b, off, e, hc⟩ := hr i hi
  exact ⟨b, off, e, hc 0 _ rfl, hc 1 _ rfl⟩
set_option maxRecDepth 100000 in
set_option maxHeartbeats 4000000 in
theorem keeps_under (a : Option Addr) (c : Nat) (ops : List (Int × Int)) (mark rev : Int) (w : World) (h : RowsAt 2 opCells w (.slice a ops.length c) ops) (hl : ops.length ≤ 9223372036854775807) (hr : rev < mark) :
    Calls Try.prog 4 #[.slice a ops.length c, .int .i64 mark, .int .i64 rev] w fun e w' => e = .returned (.bool true) ∧ Below w.heap.size w w' := by
  have hi := inv_run (ops.take 200)
  have HD := Lib.hid (done_hold a c ops w h hl)
  have HAw := Lib.hid (fun W => awake_any W)
  generalize runK (ops.take 200) = s at *
  have HA := Lib.hid (fun F W (hW : Hold F w.heap.size w.heap.size 200 s w W) => at_hold hW (by omega) rev)
  have HS := Lib.hid (fun F W (hW : Hold F w.heap.size w.heap.size 200 s w W) => since_hold hW (by omega) rev)
  have HSa := Lib.hid (fun F W (hW : Hold F w.heap.size w.heap.size 200 s w W) => since_hold hW (by omega) (-4611686018427387904))
  have HSm := Lib.hid (fun F W (hW : Hold F w.heap.size w.heap.size 200 s w W) => since_small hW.live (by omega) (-4611686018427387904))
  have HSn := Lib.hid (fun F W (hW : Hold F w.heap.size w.heap.size 200 s w W) => since_small hW.live (by omega) rev)
  have HL := Lib.hid (fun F W (hW : Hold F w.heap.size w.heap.size 200 s w W) => last_hold hW)
  have HC := Lib.hid (fun F W (hW : Hold F w.heap.size w.heap.size 200 s w W) => comp_hold hW (by omega) hi mark)
  have HA2 := Lib.hid (fun F W (hW : Hold F w.heap.size w.heap.size 200 (compK s mark) w W) => at_hold hW (by omega) rev)
  have HS2 := Lib.hid (fun F W (hW : Hold F w.heap.size w.heap.size 200 (compK s mark) w W) => since_hold hW (by omega) rev)
  have HSa2 := Lib.hid (fun F W (hW : Hold F w.heap.size w.heap.size 200 (compK s mark) w W) => since_hold hW (by omega) (-4611686018427387904))
  have HL2 : Hid (∀ F W, Hold F w.heap.size w.heap.size 200 (compK s mark) w W → Calls Try.prog 15 #[.pointer (some ⟨w.heap.size, 0, none⟩)] W fun e w' => e = .returned (.int .i64 s.last) ∧ Below W.heap.size W w') := Lib.hid (fun F W hW => last_hold (s := compK s mark) hW)
  have hsh := comp_short hi mark
  obtain ⟨n, hold⟩ := comp_old hi mark
  obtain ⟨o1, o2, o3, o4⟩ := hold
  have O3 := Lib.hid o3
  have O4 := Lib.hid o4
  have d1 : decide (mark ≤ rev) = false := decide_eq_false (by omega)
  have d2 : decide (mark < rev) = false := decide_eq_false (by omega)
  generalize sinceG (compK s mark).gs (-4611686018427387904) = R at *
  generalize sinceG s.gs (-4611686018427387904) = A at *
  generalize sinceG s.gs rev = L at *
  generalize atR (flat s.gs) rev = ch at *
  generalize atR (flat (compK s mark).gs) rev = ch2 at *
  generalize compK s mark = s2 at *
  unfold chV at HA HA2
  have dR : decide (A.length < R.length) = false := decide_eq_false (by omega)
  clear h hi o3 o4 hr
  go_enter Try.func4, Try.ntmps4
  go_wp2_with (
    first
    | (go_at_call 22; (with_reducible refine HD.out.mono ?_); rintro e w1 ⟨rfl, F, l1, hF⟩; have hA := HSm.out _ _ l1; have hL := HSn.out _ _ l1)
    | (go_at_call 16; (with_reducible refine (HA.out _ _ l1).mono ?_); rintro e w2 ⟨rfl, l2, b2⟩; have z2 := b2.size; have l2 := l2.boxed (.cells #[.int .i64 ch.cr, .int .i64 ch.rev, .int .i64 ch.ver] SeenT); have x2 := BlkAt.alloc_new w2 [.int .i64 ch.cr, .int .i64 ch.rev, .int .i64 ch.ver] SeenT; clear b2)
    | (go_at_call 18; (with_reducible refine (HS.out _ _ l2).mono ?_); rintro e w3 ⟨v3, rfl, r3, l3, b3⟩; have z3 := b3.size; simp only [World.size_alloc] at z3; obtain ⟨a3, c3, rfl⟩ := r3.slice; have x3 := x2.grew b3; clear x2 b3)
    | (go_at_call 18; (with_reducible refine (HSa.out _ _ l3).mono ?_); rintro e w4 ⟨v4, rfl, r4, l4, b4⟩; obtain ⟨a4, c4, rfl⟩ := r4.slice; have x4 := x3.grew b4; have r3 := r3.below b4; have z4 := b4.size; clear r4 b4 x3)
    | (go_at_call 15; (with_reducible refine (HL.out _ _ l4).mono ?_); rintro e w5 ⟨rfl, b5⟩; have x5 := x4.grew b5; have r3 := r3.below b5; have l5 := l4.later b5; have z5 := b5.size; clear x4 b5)
    | (go_at_call 23; (with_reducible refine (HC.out _ _ l5).mono ?_); rintro e w6 ⟨rfl, l6, b6⟩; have x6 := b6.blk x5 (fun hf => by have := hF _ hf; omega); have r3 := r3.aside b6 (fun i hf => by have := hF i hf; simp; omega); have z6 := b6.size; clear x5 b6)
    | (go_at_call 16; (with_reducible refine (HA2.out _ _ l6).mono ?_); rintro e w7 ⟨rfl, l7, b7⟩; have b7' := b7.trans ((alloc_below w7 (.cells #[.int .i64 ch2.cr, .int .i64 ch2.rev, .int .i64 ch2.ver] SeenT)).mono b7.size); have l7 := l6.later b7'; have x7 := x6.grew b7'; have r3 := r3.below b7'; have y7 := BlkAt.alloc_new w7 [.int .i64 ch2.cr, .int .i64 ch2.rev, .int .i64 ch2.ver] SeenT; clear x6 b7 b7')
    | (go_at_call 18; (with_reducible refine (HS2.out _ _ l7).mono ?_); rintro e w8 ⟨v8, rfl, r8, l8, b8⟩; obtain ⟨a8, c8, rfl⟩ := r8.slice; have x8 := x7.grew b8; have y8 := y7.grew b8; have r3 := r3.below b8; clear b8 x7 y7)
    | (go_at_call 18; (with_reducible refine (HSa2.out _ _ l8).mono ?_); rintro e w9 ⟨v9, rfl, r9, l9, b9⟩; obtain ⟨a9, c9, rfl⟩ := r9.slice; have x9 := x8.grew b9; have y9 := y8.grew b9; have r3 := r3.below b9; have r8 := r8.below b9; have x90 := x9.cell (i := 0) rfl; have x91 := x9.cell (i := 1) rfl; have x92 := x9.cell (i := 2) rfl; have y90 := y9.cell (i := 0) rfl; have y91 := y9.cell (i := 1) rfl; have y92 := y9.cell (i := 2) rfl; clear b9 x8 y8)
    | (go_at_call 15; (with_reducible refine (HL2.out _ _ l9).mono ?_); rintro e w10 ⟨rfl, b10⟩; have l10 := l9.later b10; have r3 := r3.below b10; have r8 := r8.below b10; have r9 := r9.below b10; clear b10 x9 y9))
  have HR := Lib.hid (r9.rows chg_len)
  have hs10 := l10.size
  have HB := Lib.hid l10.below
  go_loopw [19, 20] (fun ov iv W => ∃ (i k : Nat), i ≤ R.length ∧ k = min i n ∧ ov = .int .i64 (k : Int) ∧ iv = .int .i64 (i : Int) ∧ Below w10.heap.size w10 W) (fun _ iv _ => R.length - (intOf iv).toNat)
  case atStart => exact ⟨0, 0, Nat.zero_le _, by omega, rfl, rfl, Below.refl _ _⟩
  case round =>
    obtain ⟨i, k, hi, hk, rfl, rfl, hB⟩ := hrel
    have hsz := hB.size
    by_cases hlt : i < R.length
    · obtain ⟨b, off, rfl, z0, z1⟩ := chg_get (HR.out.grew hB) i hlt
      have hlo := O3.out i hlt
      have hhi := O4.out i hlt
      clear HR O3 O4
      generalize R[i].1 = x at *
      generalize R[i].2 = y at *
      by_cases hin : i < n
      · obtain ⟨h1, rfl⟩ := hlo hin
        have e1 : decide (x ≤ mark) = true := decide_eq_true h1
        have hk2 : k + 1 = min (i + 1) n := by omega
        clear h1 hlo hhi
        go_wp2
        go_roundw
        case rel => exact ⟨i + 1, k + 1, hlt, hk2, by go_num, by go_num, hB⟩
        case measure => simp [intOf]; omega
      · have h1 := hhi (by omega)
        have e1 : decide (x ≤ mark) = false := decide_eq_false (by omega)
        have hk2 : k = min (i + 1) n := by omega
        clear h1 hlo hhi
        go_wp2
        go_roundw
        case rel => exact ⟨i + 1, k, hlt, hk2, rfl, by go_num, hB⟩
        case measure => simp [intOf]; omega
    · have e1 : decide (i < R.length) = false := decide_eq_false hlt
      have e2 : decide ((k : Int) < 2) = true := decide_eq_true (by omega)
      clear HR O3 O4
      go_wp2_with (go_at_call 21; (with_reducible refine (HAw.out _).mono ?_); rintro e w11 ⟨rfl, b11⟩; have B11 := HB.out.trans ((hB.trans (b11.mono hsz)).mono hs10))
      go_ret
      exact ⟨rfl, B11⟩
set_option maxRecDepth 100000 in
set_option maxHeartbeats 4000000 in
theorem keeps_at_mark (a : Option Addr) (c : Nat) (ops : List (Int × Int)) (mark rev : Int) (w : World) (h : RowsAt 2 opCells w (.slice a ops.length c) ops) (hl : ops.length ≤ 9223372036854775807) (hr : mark ≤ rev ∧ rev ≤ mark) :
    Calls Try.prog 4 #[.slice a ops.length c, .int .i64 mark, .int .i64 rev] w fun e w' => e = .returned (.bool true) ∧ Below w.heap.size w w' := by
  have hi := inv_run (ops.take 200)
  have HD := Lib.hid (done_hold a c ops w h hl)
  have HAw := Lib.hid (fun W => awake_any W)
  generalize runK (ops.take 200) = s at *
  have HA := Lib.hid (fun F W (hW : Hold F w.heap.size w.heap.size 200 s w W) => at_hold hW (by omega) rev)
  have HS := Lib.hid (fun F W (hW : Hold F w.heap.size w.heap.size 200 s w W) => since_hold hW (by omega) rev)
  have HSa := Lib.hid (fun F W (hW : Hold F w.heap.size w.heap.size 200 s w W) => since_hold hW (by omega) (-4611686018427387904))
  have HSm := Lib.hid (fun F W (hW : Hold F w.heap.size w.heap.size 200 s w W) => since_small hW.live (by omega) (-4611686018427387904))
  have HSn := Lib.hid (fun F W (hW : Hold F w.heap.size w.heap.size 200 s w W) => since_small hW.live (by omega) rev)
  have HL := Lib.hid (fun F W (hW : Hold F w.heap.size w.heap.size 200 s w W) => last_hold hW)
  have HC := Lib.hid (fun F W (hW : Hold F w.heap.size w.heap.size 200 s w W) => comp_hold hW (by omega) hi mark)
  have HA2 := Lib.hid (fun F W (hW : Hold F w.heap.size w.heap.size 200 (compK s mark) w W) => at_hold hW (by omega) rev)
  have HS2 := Lib.hid (fun F W (hW : Hold F w.heap.size w.heap.size 200 (compK s mark) w W) => since_hold hW (by omega) rev)
  have HSa2 := Lib.hid (fun F W (hW : Hold F w.heap.size w.heap.size 200 (compK s mark) w W) => since_hold hW (by omega) (-4611686018427387904))
  have HL2 : Hid (∀ F W, Hold F w.heap.size w.heap.size 200 (compK s mark) w W → Calls Try.prog 15 #[.pointer (some ⟨w.heap.size, 0, none⟩)] W fun e w' => e = .returned (.int .i64 s.last) ∧ Below W.heap.size W w') := Lib.hid (fun F W hW => last_hold (s := compK s mark) hW)
  have hsh := comp_short hi mark
  obtain ⟨n, hold⟩ := comp_old hi mark
  obtain ⟨o1, o2, o3, o4⟩ := hold
  have O3 := Lib.hid o3
  have O4 := Lib.hid o4
  have d1 : decide (mark ≤ rev) = true := decide_eq_true (by omega)
  have d2 : decide (mark < rev) = false := decide_eq_false (by omega)
  have hch := comp_seen hi mark rev (by omega)
  rw [hch] at HA2
  clear hch
  generalize sinceG (compK s mark).gs (-4611686018427387904) = R at *
  generalize sinceG s.gs (-4611686018427387904) = A at *
  generalize sinceG s.gs rev = L at *
  generalize atR (flat s.gs) rev = ch at *
  generalize compK s mark = s2 at *
  unfold chV at HA HA2
  have dR : decide (A.length < R.length) = false := decide_eq_false (by omega)
  clear h hi o3 o4 hr
  go_enter Try.func4, Try.ntmps4
  go_wp2_with (
    first
    | (go_at_call 22; (with_reducible refine HD.out.mono ?_); rintro e w1 ⟨rfl, F, l1, hF⟩; have hA := HSm.out _ _ l1; have hL := HSn.out _ _ l1)
    | (go_at_call 16; (with_reducible refine (HA.out _ _ l1).mono ?_); rintro e w2 ⟨rfl, l2, b2⟩; have z2 := b2.size; have l2 := l2.boxed (.cells #[.int .i64 ch.cr, .int .i64 ch.rev, .int .i64 ch.ver] SeenT); have x2 := BlkAt.alloc_new w2 [.int .i64 ch.cr, .int .i64 ch.rev, .int .i64 ch.ver] SeenT; clear b2)
    | (go_at_call 18; (with_reducible refine (HS.out _ _ l2).mono ?_); rintro e w3 ⟨v3, rfl, r3, l3, b3⟩; have z3 := b3.size; simp only [World.size_alloc] at z3; obtain ⟨a3, c3, rfl⟩ := r3.slice; have x3 := x2.grew b3; clear x2 b3)
    | (go_at_call 18; (with_reducible refine (HSa.out _ _ l3).mono ?_); rintro e w4 ⟨v4, rfl, r4, l4, b4⟩; obtain ⟨a4, c4, rfl⟩ := r4.slice; have x4 := x3.grew b4; have r3 := r3.below b4; have z4 := b4.size; clear r4 b4 x3)
    | (go_at_call 15; (with_reducible refine (HL.out _ _ l4).mono ?_); rintro e w5 ⟨rfl, b5⟩; have x5 := x4.grew b5; have r3 := r3.below b5; have l5 := l4.later b5; have z5 := b5.size; clear x4 b5)
    | (go_at_call 23; (with_reducible refine (HC.out _ _ l5).mono ?_); rintro e w6 ⟨rfl, l6, b6⟩; have x6 := b6.blk x5 (fun hf => by have := hF _ hf; omega); have r3 := r3.aside b6 (fun i hf => by have := hF i hf; simp; omega); have z6 := b6.size; clear x5 b6)
    | (go_at_call 16; (with_reducible refine (HA2.out _ _ l6).mono ?_); rintro e w7 ⟨rfl, l7, b7⟩; have b7' := b7.trans ((alloc_below w7 (.cells #[.int .i64 ch.cr, .int .i64 ch.rev, .int .i64 ch.ver] SeenT)).mono b7.size); have l7 := l6.later b7'; have x7 := x6.grew b7'; have r3 := r3.below b7'; have y7 := BlkAt.alloc_new w7 [.int .i64 ch.cr, .int .i64 ch.rev, .int .i64 ch.ver] SeenT; clear x6 b7 b7')
    | (go_at_call 18; (with_reducible refine (HS2.out _ _ l7).mono ?_); rintro e w8 ⟨v8, rfl, r8, l8, b8⟩; obtain ⟨a8, c8, rfl⟩ := r8.slice; have x8 := x7.grew b8; have y8 := y7.grew b8; have r3 := r3.below b8; clear b8 x7 y7)
    | (go_at_call 18; (with_reducible refine (HSa2.out _ _ l8).mono ?_); rintro e w9 ⟨v9, rfl, r9, l9, b9⟩; obtain ⟨a9, c9, rfl⟩ := r9.slice; have x9 := x8.grew b9; have y9 := y8.grew b9; have r3 := r3.below b9; have r8 := r8.below b9; have x90 := x9.cell (i := 0) rfl; have x91 := x9.cell (i := 1) rfl; have x92 := x9.cell (i := 2) rfl; have y90 := y9.cell (i := 0) rfl; have y91 := y9.cell (i := 1) rfl; have y92 := y9.cell (i := 2) rfl; clear b9 x8 y8)
    | (go_at_call 15; (with_reducible refine (HL2.out _ _ l9).mono ?_); rintro e w10 ⟨rfl, b10⟩; have l10 := l9.later b10; have r3 := r3.below b10; have r8 := r8.below b10; have r9 := r9.below b10; clear b10 x9 y9))
  have HR := Lib.hid (r9.rows chg_len)
  have hs10 := l10.size
  have HB := Lib.hid l10.below
  go_loopw [19, 20] (fun ov iv W => ∃ (i k : Nat), i ≤ R.length ∧ k = min i n ∧ ov = .int .i64 (k : Int) ∧ iv = .int .i64 (i : Int) ∧ Below w10.heap.size w10 W) (fun _ iv _ => R.length - (intOf iv).toNat)
  case atStart => exact ⟨0, 0, Nat.zero_le _, by omega, rfl, rfl, Below.refl _ _⟩
  case round =>
    obtain ⟨i, k, hi, hk, rfl, rfl, hB⟩ := hrel
    have hsz := hB.size
    by_cases hlt : i < R.length
    · obtain ⟨b, off, rfl, z0, z1⟩ := chg_get (HR.out.grew hB) i hlt
      have hlo := O3.out i hlt
      have hhi := O4.out i hlt
      clear HR O3 O4
      generalize R[i].1 = x at *
      generalize R[i].2 = y at *
      by_cases hin : i < n
      · obtain ⟨h1, rfl⟩ := hlo hin
        have e1 : decide (x ≤ mark) = true := decide_eq_true h1
        have hk2 : k + 1 = min (i + 1) n := by omega
        clear h1 hlo hhi
        go_wp2
        go_roundw
        case rel => exact ⟨i + 1, k + 1, hlt, hk2, by go_num, by go_num, hB⟩
        case measure => simp [intOf]; omega
      · have h1 := hhi (by omega)
        have e1 : decide (x ≤ mark) = false := decide_eq_false (by omega)
        have hk2 : k = min (i + 1) n := by omega
        clear h1 hlo hhi
        go_wp2
        go_roundw
        case rel => exact ⟨i + 1, k, hlt, hk2, rfl, by go_num, hB⟩
        case measure => simp [intOf]; omega
    · have e1 : decide (i < R.length) = false := decide_eq_false hlt
      have e2 : decide ((k : Int) < 2) = true := decide_eq_true (by omega)
      clear HR O3 O4
      go_wp2_with (go_at_call 21; (with_reducible refine (HAw.out _).mono ?_); rintro e w11 ⟨rfl, b11⟩; have B11 := HB.out.trans ((hB.trans (b11.mono hsz)).mono hs10))
      go_ret
      exact ⟨rfl, B11⟩
set_option maxRecDepth 100000 in
set_option maxHeartbeats 4000000 in
theorem keeps_over (a : Option Addr) (c : Nat) (ops : List (Int × Int)) (mark rev : Int) (w : World) (h : RowsAt 2 opCells w (.slice a ops.length c) ops) (hl : ops.length ≤ 9223372036854775807) (hr : mark < rev) :
    Calls Try.prog 4 #[.slice a ops.length c, .int .i64 mark, .int .i64 rev] w fun e w' => e = .returned (.bool true) ∧ Below w.heap.size w w' := by
  have hi := inv_run (ops.take 200)
  have HD := Lib.hid (done_hold a c ops w h hl)
  have HAw := Lib.hid (fun W => awake_any W)
  generalize runK (ops.take 200) = s at *
  have HA := Lib.hid (fun F W (hW : Hold F w.heap.size w.heap.size 200 s w W) => at_hold hW (by omega) rev)
  have HS := Lib.hid (fun F W (hW : Hold F w.heap.size w.heap.size 200 s w W) => since_hold hW (by omega) rev)
  have HSa := Lib.hid (fun F W (hW : Hold F w.heap.size w.heap.size 200 s w W) => since_hold hW (by omega) (-4611686018427387904))
  have HSm := Lib.hid (fun F W (hW : Hold F w.heap.size w.heap.size 200 s w W) => since_small hW.live (by omega) (-4611686018427387904))
  have HSn := Lib.hid (fun F W (hW : Hold F w.heap.size w.heap.size 200 s w W) => since_small hW.live (by omega) rev)
  have HL := Lib.hid (fun F W (hW : Hold F w.heap.size w.heap.size 200 s w W) => last_hold hW)
  have HC := Lib.hid (fun F W (hW : Hold F w.heap.size w.heap.size 200 s w W) => comp_hold hW (by omega) hi mark)
  have HA2 := Lib.hid (fun F W (hW : Hold F w.heap.size w.heap.size 200 (compK s mark) w W) => at_hold hW (by omega) rev)
  have HS2 := Lib.hid (fun F W (hW : Hold F w.heap.size w.heap.size 200 (compK s mark) w W) => since_hold hW (by omega) rev)
  have HSa2 := Lib.hid (fun F W (hW : Hold F w.heap.size w.heap.size 200 (compK s mark) w W) => since_hold hW (by omega) (-4611686018427387904))
  have HL2 : Hid (∀ F W, Hold F w.heap.size w.heap.size 200 (compK s mark) w W → Calls Try.prog 15 #[.pointer (some ⟨w.heap.size, 0, none⟩)] W fun e w' => e = .returned (.int .i64 s.last) ∧ Below W.heap.size W w') := Lib.hid (fun F W hW => last_hold (s := compK s mark) hW)
  have hsh := comp_short hi mark
  obtain ⟨n, hold⟩ := comp_old hi mark
  obtain ⟨o1, o2, o3, o4⟩ := hold
  have O3 := Lib.hid o3
  have O4 := Lib.hid o4
  have d1 : decide (mark ≤ rev) = true := decide_eq_true (by omega)
  have d2 : decide (mark < rev) = true := decide_eq_true (by omega)
  have hch := comp_seen hi mark rev (by omega)
  rw [hch] at HA2
  clear hch
  have hcs := comp_since hi mark rev (by omega)
  rw [hcs] at HS2
  clear hcs
  generalize sinceG (compK s mark).gs (-4611686018427387904) = R at *
  generalize sinceG s.gs (-4611686018427387904) = A at *
  generalize sinceG s.gs rev = L at *
  generalize atR (flat s.gs) rev = ch at *
  generalize compK s mark = s2 at *
  unfold chV at HA HA2
  have dR : decide (A.length < R.length) = false := decide_eq_false (by omega)
  clear h hi o3 o4 hr
  go_enter Try.func4, Try.ntmps4
  go_wp2_with (
    first
    | (go_at_call 22; (with_reducible refine HD.out.mono ?_); rintro e w1 ⟨rfl, F, l1, hF⟩; have hA := HSm.out _ _ l1; have hL := HSn.out _ _ l1)
    | (go_at_call 16; (with_reducible refine (HA.out _ _ l1).mono ?_); rintro e w2 ⟨rfl, l2, b2⟩; have z2 := b2.size; have l2 := l2.boxed (.cells #[.int .i64 ch.cr, .int .i64 ch.rev, .int .i64 ch.ver] SeenT); have x2 := BlkAt.alloc_new w2 [.int .i64 ch.cr, .int .i64 ch.rev, .int .i64 ch.ver] SeenT; clear b2)
    | (go_at_call 18; (with_reducible refine (HS.out _ _ l2).mono ?_); rintro e w3 ⟨v3, rfl, r3, l3, b3⟩; have z3 := b3.size; simp only [World.size_alloc] at z3; obtain ⟨a3, c3, rfl⟩ := r3.slice; have x3 := x2.grew b3; clear x2 b3)
    | (go_at_call 18; (with_reducible refine (HSa.out _ _ l3).mono ?_); rintro e w4 ⟨v4, rfl, r4, l4, b4⟩; obtain ⟨a4, c4, rfl⟩ := r4.slice; have x4 := x3.grew b4; have r3 := r3.below b4; have z4 := b4.size; clear r4 b4 x3)
    | (go_at_call 15; (with_reducible refine (HL.out _ _ l4).mono ?_); rintro e w5 ⟨rfl, b5⟩; have x5 := x4.grew b5; have r3 := r3.below b5; have l5 := l4.later b5; have z5 := b5.size; clear x4 b5)
    | (go_at_call 23; (with_reducible refine (HC.out _ _ l5).mono ?_); rintro e w6 ⟨rfl, l6, b6⟩; have x6 := b6.blk x5 (fun hf => by have := hF _ hf; omega); have r3 := r3.aside b6 (fun i hf => by have := hF i hf; simp; omega); have z6 := b6.size; clear x5 b6)
    | (go_at_call 16; (with_reducible refine (HA2.out _ _ l6).mono ?_); rintro e w7 ⟨rfl, l7, b7⟩; have b7' := b7.trans ((alloc_below w7 (.cells #[.int .i64 ch.cr, .int .i64 ch.rev, .int .i64 ch.ver] SeenT)).mono b7.size); have l7 := l6.later b7'; have x7 := x6.grew b7'; have r3 := r3.below b7'; have y7 := BlkAt.alloc_new w7 [.int .i64 ch.cr, .int .i64 ch.rev, .int .i64 ch.ver] SeenT; clear x6 b7 b7')
    | (go_at_call 18; (with_reducible refine (HS2.out _ _ l7).mono ?_); rintro e w8 ⟨v8, rfl, r8, l8, b8⟩; obtain ⟨a8, c8, rfl⟩ := r8.slice; have x8 := x7.grew b8; have y8 := y7.grew b8; have r3 := r3.below b8; clear b8 x7 y7)
    | (go_at_call 18; (with_reducible refine (HSa2.out _ _ l8).mono ?_); rintro e w9 ⟨v9, rfl, r9, l9, b9⟩; obtain ⟨a9, c9, rfl⟩ := r9.slice; have x9 := x8.grew b9; have y9 := y8.grew b9; have r3 := r3.below b9; have r8 := r8.below b9; have x90 := x9.cell (i := 0) rfl; have x91 := x9.cell (i := 1) rfl; have x92 := x9.cell (i := 2) rfl; have y90 := y9.cell (i := 0) rfl; have y91 := y9.cell (i := 1) rfl; have y92 := y9.cell (i := 2) rfl; clear b9 x8 y8)
    | (go_at_call 15; (with_reducible refine (HL2.out _ _ l9).mono ?_); rintro e w10 ⟨rfl, b10⟩; have l10 := l9.later b10; have r3 := r3.below b10; have r8 := r8.below b10; have r9 := r9.below b10; clear b10 x9 y9))
  have HL8 := Lib.hid (r8.rows chg_len)
  have HL3 := Lib.hid (r3.rows chg_len)
  have hs9 := l10.size
  have l10 := l10
  go_loopw [18] (fun iv W => ∃ i : Nat, i ≤ L.length ∧ iv = .int .i64 (i : Int) ∧ Below w10.heap.size w10 W) (fun iv _ => L.length - (intOf iv).toNat)
  case atStart => exact ⟨0, Nat.zero_le _, rfl, Below.refl _ _⟩
  case round =>
    obtain ⟨i, hi, rfl, hB⟩ := hrel
    have hsz := hB.size
    by_cases hlt : i < L.length
    · obtain ⟨b, off, rfl, z0, z1⟩ := chg_get (HL3.out.grew hB) i hlt
      obtain ⟨b2, off2, rfl, u0, u1⟩ := chg_get (HL8.out.grew hB) i hlt
      have hdi : decide (i < L.length) = true := decide_eq_true hlt
      clear HL3 HL8 O3 O4
      generalize L[i].1 = x at *
      generalize L[i].2 = y at *
      go_wp2_with (fail)
      have hex := Grew.all wr
      refine wp_region_grew (by kernel_rfl) (by kernel_rfl) ?_
      repeat (first | go_big_quiet_skip | (go_big_quiet_want; first | (refine quiet_load_mid ChgT _ rfl b (off + i * 2) rfl [.int .i64 x, .bool y] _ (fun W hW => range2 (Grew.cell hW z0) (Grew.cell hW z1)) Try.underlying50 rfl (by kernel_rfl) ?_; simp only [Act.put, List.setIfInBounds_toArray, List.set_cons_succ, List.set_cons_zero]; go_big_quiet_on) | (refine quiet_load_mid ChgT _ rfl b2 (off2 + i * 2) rfl [.int .i64 x, .bool y] _ (fun W hW => range2 (Grew.cell hW u0) (Grew.cell hW u1)) Try.underlying50 rfl (by kernel_rfl) ?_; simp only [Act.put, List.setIfInBounds_toArray, List.set_cons_succ, List.set_cons_zero]; go_big_quiet_on) | (go_big_quiet_op; first | go_big_quiet_on | (apply Exists.intro; refine ⟨fun W hW => ?_, ?_⟩; (first | exact rfl); go_big_quiet_on))))
      refine wpQuiet_nil ?_
      intro w12 hw12
      have hB2 := hB.trans (Below.mono (show Below wr.heap.size wr w12 from hw12) hsz)
      clear hex
      go_wp2
      go_roundw
      case rel => exact ⟨i + 1, hlt, by go_num, hB2⟩
      case measure => simp [intOf]; omega
    · have hdi : decide (i < L.length) = false := decide_eq_false hlt
      have l10 := l10.later hB
      have r9 := r9.below hB
      clear HL3 HL8 hs9 r3 r8
      go_wp2
      have HR := Lib.hid (r9.rows chg_len)
      have hs10 := l10.size
      have HB := Lib.hid l10.below
      go_loopw [19, 20] (fun ov iv W => ∃ (i k : Nat), i ≤ R.length ∧ k = min i n ∧ ov = .int .i64 (k : Int) ∧ iv = .int .i64 (i : Int) ∧ Below wr.heap.size wr W) (fun _ iv _ => R.length - (intOf iv).toNat)
      case atStart => exact ⟨0, 0, Nat.zero_le _, by omega, rfl, rfl, Below.refl _ _⟩
      case round =>
        obtain ⟨i, k, hi, hk, rfl, rfl, hB⟩ := hrel
        have hsz := hB.size
        by_cases hlt : i < R.length
        · obtain ⟨b, off, rfl, z0, z1⟩ := chg_get (HR.out.grew hB) i hlt
          have hlo := O3.out i hlt
          have hhi := O4.out i hlt
          clear HR O3 O4
          generalize R[i].1 = x at *
          generalize R[i].2 = y at *
          by_cases hin : i < n
          · obtain ⟨h1, rfl⟩ := hlo hin
            have e1 : decide (x ≤ mark) = true := decide_eq_true h1
            have hk2 : k + 1 = min (i + 1) n := by omega
            clear h1 hlo hhi
            go_wp2
            go_roundw
            case rel => exact ⟨i + 1, k + 1, hlt, hk2, by go_num, by go_num, hB⟩
            case measure => simp [intOf]; omega
          · have h1 := hhi (by omega)
            have e1 : decide (x ≤ mark) = false := decide_eq_false (by omega)
            have hk2 : k = min (i + 1) n := by omega
            clear h1 hlo hhi
            go_wp2
            go_roundw
            case rel => exact ⟨i + 1, k, hlt, hk2, rfl, by go_num, hB⟩
            case measure => simp [intOf]; omega
        · have e1 : decide (i < R.length) = false := decide_eq_false hlt
          have e2 : decide ((k : Int) < 2) = true := decide_eq_true (by omega)
          clear HR O3 O4
          go_wp2_with (go_at_call 21; (with_reducible refine (HAw.out _).mono ?_); rintro e w11 ⟨rfl, b11⟩; have B11 := HB.out.trans ((hB.trans (b11.mono hsz)).mono hs10))
          go_ret
          exact ⟨rfl, B11⟩
/-- THE LAW. -/
theorem gensKeeps_walk (W : World) (v0 : Value) (mark rev : Int) (h0 : IsOps W v0) (w1 : (Lit.int .i64 mark).wf = true) (w2 : (Lit.int .i64 rev).wf = true) :
    Calls Try.prog 4 #[v0, .int .i64 mark, .int .i64 rev] W fun e w' => e = .returned (.bool true) ∧ Below W.heap.size W w' := by
  obtain ⟨L, a, c, rfl, h1, h2, h3, _⟩ := h0
  unfold maxLen at h2
  rcases Int.lt_trichotomy rev mark with h | h | h
  · exact keeps_under a c L mark rev W h3 (by omega) h
  · exact keeps_at_mark a c L mark rev W h3 (by omega) (by omega)
  · exact keeps_over a c L mark rev W h3 (by omega) h
end Go.Proofs.Ytnliapdhmjljiaa
