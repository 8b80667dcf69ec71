/- The law GensRises, walked. Conditions: as each theorem says. -/
import Derived.Test.YtnliapdhmjljiaaGenX
namespace Go.Proofs.Ytnliapdhmjljiaa
open Go.RowKit

theorem alt_at : ∀ (F : List Ch) (f : Bool), altC f F → ∀ i (hi : i < F.length), F[i].gone = true → (i = 0 → f = true) ∧ ∀ j (hj : j + 1 = i), F[j].gone = false := by
  intro F
  induction F with
  | nil => intro f _ i hi; simp at hi
  | cons c F ih =>
    intro f h i hi hg
    obtain ⟨h1, h2⟩ := h
    cases i with
    | zero => exact ⟨fun _ => h1 hg, fun j hj => by omega⟩
    | succ i =>
      refine ⟨fun h => by omega, fun j hj => ?_⟩
      obtain rfl : j = i := by omega
      simp only [List.getElem_cons_succ] at hg
      have hi2 : j < F.length := by simpa using hi
      obtain ⟨k1, k2⟩ := ih _ h2 j hi2 hg
      cases j with
      | zero => simpa using k1 rfl
      | succ j => simpa using k2 j rfl
theorem split_at (F : List Ch) (i : Nat) (hi : i < F.length) : F = F.take i ++ F[i] :: F.drop (i + 1) := by
  rw [← List.drop_eq_getElem_cons hi, List.take_append_drop]
theorem rise_fact {s : Ks} (h : InvK s) (i : Nat) (hi : i < (flat s.gs).length) : 1 ≤ (flat s.gs)[i].rev ∧ (flat s.gs)[i].rev ≤ 1099511627776 ∧ (∀ j (hj : j + 1 = i), (flat s.gs)[j].rev < (flat s.gs)[i].rev) ∧
    ((flat s.gs)[i].gone = true → i ≠ 0 ∧ ∀ j (hj : j + 1 = i), (flat s.gs)[j].gone = false) ∧ decide (0 < (atR (flat s.gs) (flat s.gs)[i].rev).rev) = !(flat s.gs)[i].gone := by
  have ha := flat_asc s.gs 0 (Int.le_refl _) h.1
  have he := split_at (flat s.gs) i hi
  have ht := flat_top h _ (List.getElem_mem hi)
  have hs := (asc_split _ _ _ 0 _ ha he).1
  refine ⟨ht.1, ht.2.2, fun j hj => hs _ (List.mem_take_iff_getElem.2 ⟨j, by omega, rfl⟩), fun hg => ?_, ?_⟩
  · have hal := alt_at _ _ (flat_alt s.gs 0 (Int.le_refl _) h.1 false) i hi hg
    exact ⟨fun h0 => by simpa using hal.1 h0, hal.2⟩
  · rw [at_self _ _ _ _ ha he]
    cases hg : (flat s.gs)[i].gone with
    | true => simp [zeroC]
    | false => simp; omega
/-- What the law asks of a list of changes, number by number. -/
structure RiseAt (gs : List Gn) (L : List (Int × Bool)) (i : Nat) (hi : i < L.length) : Prop where
  low : 1 ≤ L[i].1
  high : L[i].1 ≤ 1099511627776
  up : ∀ j (hj : j + 1 = i), L[j].1 < L[i].1
  alt : L[i].2 = true → i ≠ 0 ∧ ∀ j (hj : j + 1 = i), L[j].2 = false
  seen : decide (0 < (atR (flat gs) L[i].1).rev) = !L[i].2
theorem rise_at {s : Ks} (h : InvK s) (i : Nat) (hi : i < (sinceG s.gs 0).length) : RiseAt s.gs (sinceG s.gs 0) i hi := by
  have e := since0 h
  revert hi
  rw [e]
  intro hi
  have hi2 : i < (flat s.gs).length := by simpa using hi
  obtain ⟨h1, h2, h3, h4, h5⟩ := rise_fact h i hi2
  constructor <;> simp only [List.getElem_map]
  · exact h1
  · exact h2
  · exact h3
  · exact h4
  · exact h5
theorem rise_end {s : Ks} (h : InvK s) (L : List (Int × Bool)) (hL : sinceG s.gs 0 = L) (hn : 0 < L.length) : L[L.length - 1].1 = s.last ∧ decide (0 < (atR (flat s.gs) 1099511627776).rev) = !L[L.length - 1].2 := by
  have e := since0 h
  rw [hL] at e
  subst e
  have hn2 : 0 < (flat s.gs).length := by simpa using hn
  have hne : flat s.gs ≠ [] := fun h0 => by rw [h0] at hn2; simp at hn2
  have hg : s.gs ≠ [] := fun h0 => hne ((flat_nil h.1).2 h0)
  have hl := flat_last h hg
  have hle : (flat s.gs).getLastD zeroC = (flat s.gs)[(flat s.gs).length - 1] := by
    rw [← List.getLast_eq_getElem hne, List.getLastD_eq_getLast?, List.getLast?_eq_some_getLast hne]; rfl
  simp only [List.length_map, List.getElem_map]
  rw [at_end _ _ (fun c hc => (flat_top h c hc).2.2), ← hle]
  refine ⟨hl, ?_⟩
  have ht := (flat_top h _ (List.getElem_mem (show (flat s.gs).length - 1 < (flat s.gs).length by omega))).1
  rw [← hle] at ht
  generalize (flat s.gs).getLastD zeroC = x at *
  cases hg : x.gone with
  | true => simp [zeroC]
  | false => simp; omega
theorem rise_nil {s : Ks} (h : InvK s) (hn : sinceG s.gs 0 = []) (rev : Int) : atR (flat s.gs) rev = zeroC := by
  have e := since0 h
  rw [hn] at e
  have : flat s.gs = [] := by simpa using e.symm
  rw [this]; rfl
theorem Way.in_ {base kb n : Nat} {s : Ks} {w0 w W : World} (h : Way base kb n s w0 w) (hW : Grew w W) : Way base kb n s w0 W := h.later hW
theorem below_drew (w : World) (n : Nat) : Below w.heap.size w (w.drewN n) := ⟨rfl, rfl, rfl, Nat.le_refl _, fun _ _ => rfl⟩
theorem last_way {base kb n : Nat} {s : Ks} {w0 w : World} (h : Way base kb n s w0 w) : Calls Try.prog 15 #[.pointer (some ⟨kb, 0, none⟩)] w fun e w' => e = .returned (.int .i64 s.last) ∧ Below w.heap.size w w' :=
  (last_live h.live).mono fun e w' k => ⟨k.1, by rw [k.2]; exact Below.refl _ _⟩
set_option maxRecDepth 100000 in
set_option maxHeartbeats 2000000 in
theorem rises_nil (a : Option Addr) (c : Nat) (ops : List (Int × Int)) (w : World) (h : RowsAt 2 opCells w (.slice a ops.length c) ops) (hl : ops.length ≤ 9223372036854775807) (hn : sinceG (runK (ops.take 200)).gs 0 = []) :
    Calls Try.prog 6 #[.slice a ops.length c] w fun e w' => e = .returned (.bool true) ∧ Below w.heap.size w w' := by
  have hi := inv_run (ops.take 200)
  have HD := Lib.hid (done_way a c ops w h hl)
  have HAw := Lib.hid (fun W => awake_any W)
  have hz := rise_nil hi hn 1099511627776
  generalize runK (ops.take 200) = s at *
  have HA := Lib.hid (fun n (hn : n ≤ 1000) W (hW : Way w.heap.size w.heap.size n s w W) => at_way hW hn 1099511627776)
  rw [hz] at HA
  simp only [chV, zeroC, show decide ((0 : Int) < 0) = false from rfl] at HA
  have HS := Lib.hid (fun n (hn : n ≤ 1000) W (hW : Way w.heap.size w.heap.size n s w W) => since_way hW hn 0)
  rw [hn] at HS
  have HL := Lib.hid (fun n W (hW : Way w.heap.size w.heap.size n s w W) => last_way hW)
  clear h hi hz hn
  go_enter Try.func6, Try.ntmps6
  go_wp2_with (
    first
    | (go_at_call 22; (with_reducible refine HD.out.mono ?_); rintro e w1 ⟨rfl, l1⟩)
    | (go_at_call 18; (with_reducible refine (HS.out 200 (by decide) _ l1).mono ?_); rintro e w2 ⟨v2, rfl, g2, l2⟩; obtain ⟨a2, c2, rfl⟩ := own_slice g2.own; simp only [List.length_nil]; clear g2))
  go_loopw [5] (fun i wr => i = .int .i64 (0 : Nat) ∧ wr = w2) (fun i _ => 0)
  case atStart => exact ⟨rfl, rfl⟩
  case round =>
    obtain ⟨rfl, rfl⟩ := hrel
    go_wp2_with (go_at_call 16; (with_reducible refine (HA.out 200 (by decide) _ l2).mono ?_); rintro e w4 ⟨rfl, l4, _⟩; have l4' := l4.boxed (.cells #[.int .i64 0, .int .i64 0, .int .i64 0] SeenT))
    have hex := Grew.all (w4.alloc (.cells #[.int .i64 0, .int .i64 0, .int .i64 0] SeenT))
    refine wp_region_grew (by kernel_rfl) (by kernel_rfl) ?_
    repeat (first | go_big_quiet_skip | (go_big_quiet_want; first | (refine fail ?_; simp only [Act.put, List.setIfInBounds_toArray, List.set_cons_succ, List.set_cons_zero]; go_big_quiet_on) | (go_big_quiet_op; first | go_big_quiet_on | (apply Exists.intro; refine ⟨fun W hW => ?_, ?_⟩; (first | exact rfl | (go_at_call 15; with_reducible exact Calls.grew hW (HL.out 200 _ (l4'.in_ hW))) | (go_at_call 21; with_reducible exact Calls.grew hW (HAw.out _))); go_big_quiet_on))))
    refine wpQuiet_nil ?_
    intro w5 hw5
    have B5 := (l4'.in_ hw5).below
    go_wp2
    go_ret
    exact ⟨rfl, B5⟩
theorem got_at {w w' : World} {v : Value} {L : List (Int × Bool)} (h : Got w v L w') (hn : 0 < L.length) : ∃ g c, v = .slice (some ⟨g, 0, none⟩) L.length c ∧ w.heap.size ≤ g ∧ ∀ i (hi : i < L.length), w'.cell? ⟨g, i * 2, none⟩ = some (.int .i64 L[i].1) ∧ w'.cell? ⟨g, i * 2 + 1, none⟩ = some (.bool L[i].2) := by
  obtain ⟨a, c, rfl⟩ := own_slice h.own
  obtain ⟨_, g, hg, rfl, hc⟩ := got_cell h hn
  exact ⟨g, c, rfl, hg, fun i hi => ⟨(hc i hi).1, (hc i hi).2.1⟩⟩
set_option maxRecDepth 100000 in
set_option maxHeartbeats 4000000 in
theorem rises_some (a : Option Addr) (c : Nat) (ops : List (Int × Int)) (w : World) (h : RowsAt 2 opCells w (.slice a ops.length c) ops) (hl : ops.length ≤ 9223372036854775807) (hn : 0 < (sinceG (runK (ops.take 200)).gs 0).length) :
    Calls Try.prog 6 #[.slice a ops.length c] w fun e w' => e = .returned (.bool true) ∧ Below w.heap.size w w' := by
  have hi := inv_run (ops.take 200)
  have HD := Lib.hid (done_way a c ops w h hl)
  have hsm : ∀ W, Way w.heap.size w.heap.size 200 (runK (ops.take 200)) w W → (sinceG (runK (ops.take 200)).gs 0).length ≤ 2000 := fun W hW => since_small hW.live (by omega) 0
  have HSm := Lib.hid hsm
  have HAw := Lib.hid (fun W => awake_any W)
  have HRA := Lib.hid (rise_at hi)
  have HRE := Lib.hid (rise_end hi _ rfl hn)
  generalize runK (ops.take 200) = s at *
  have HA := Lib.hid (fun rev n (hn : n ≤ 1000) W (hW : Way w.heap.size w.heap.size n s w W) => at_way hW hn rev)
  have HS := Lib.hid (fun n (hn : n ≤ 1000) W (hW : Way w.heap.size w.heap.size n s w W) => since_way hW hn 0)
  have HL := Lib.hid (fun n W (hW : Way w.heap.size w.heap.size n s w W) => last_way hW)
  unfold chV at HA
  clear h hi
  generalize sinceG s.gs 0 = L at *
  go_enter Try.func6, Try.ntmps6
  go_wp2_with (
    first
    | (go_at_call 22; (with_reducible refine HD.out.mono ?_); rintro e w1 ⟨rfl, l1⟩; have hL := HSm.out _ l1)
    | (go_at_call 18; (with_reducible refine (HS.out 200 (by decide) _ l1).mono ?_); rintro e w2 ⟨v2, rfl, g2, l2⟩; obtain ⟨g, c2, rfl, hg, hx⟩ := got_at g2 hn; clear g2))
  have HX := Lib.hid hx
  clear hx
  go_loopw [5] (fun i wr => ∃ k : Nat, k ≤ L.length ∧ i = .int .i64 (k : Int) ∧ Way w.heap.size w.heap.size 200 s w wr ∧ Below w2.heap.size w2 wr) (fun i _ => L.length - (intOf i).toNat)
  case atStart => exact ⟨0, Nat.zero_le _, rfl, l2, Below.refl _ _⟩
  case round =>
    obtain ⟨k, hk, rfl, hW, hB⟩ := hrel
    by_cases hlt : k < L.length
    · obtain ⟨r1, r2, r3, r4, r5⟩ := HRA.out k hlt
      have c0 := Grew.cell hB (HX.out k hlt).1
      have c1 := Grew.cell hB (HX.out k hlt).2
      have d0 : decide (L[k].1 < 1) = false := decide_eq_false (by omega)
      have d1 : decide (1099511627776 < L[k].1) = false := decide_eq_false (by omega)
      have HAk := Lib.hid (fun W (hq : Below wr.heap.size wr W) => HA.out L[k].1 200 (by decide) W (hW.later hq))
      rw [r5] at HAk
      have hsz := hB.size
      by_cases hk0 : k = 0
      · subst hk0
        have hgo : L[0].2 = false := by cases hb : L[0].2 with | false => rfl | true => exact absurd rfl (r4 hb).1
        rw [hgo] at c1 HAk
        simp only [Nat.zero_mul, Bool.not_false] at c0 c1 HAk
        have hd : decide (0 < L.length) = true := decide_eq_true hlt
        have hx1 := (HX.out 0 hlt).2
        rw [hgo] at hx1
        simp only [Nat.zero_mul, Nat.zero_add] at hx1 c1 c0
        clear r1 r2 r3 r4 r5 hgo
        generalize L[0].1 = x at *
        generalize atR (flat s.gs) x = ch at *
        go_wp2_with (fail)
        go_quiet (fail)
        go_wp2_with (go_at_call 16; (with_reducible refine (HAk.out _ (below_drew wr nq)).mono ?_); rintro e w4 ⟨rfl, l4, b4⟩; have l4' := l4.boxed (.cells #[.int .i64 ch.cr, .int .i64 ch.rev, .int .i64 ch.ver] SeenT); have B4 := hB.trans ((((below_drew wr nq).trans (b4.mono (Nat.le_refl _))).trans ((alloc_below w4 (.cells #[.int .i64 ch.cr, .int .i64 ch.rev, .int .i64 ch.ver] SeenT)).mono b4.size)).mono hsz); have y1 := Grew.cell B4 hx1)
        go_roundw
        case rel => exact ⟨1, hlt, rfl, l4', B4⟩
        case measure => simp [intOf]; omega
      · have hj : k - 1 < L.length := by omega
        obtain ⟨r31, r32⟩ : L[k-1].1 < L[k].1 ∧ (L[k].2 = true → L[k-1].2 = false) := ⟨r3 (k-1) (by omega), fun h => (r4 h).2 (k-1) (by omega)⟩
        have e0 := Grew.cell hB (HX.out (k-1) hj).1
        have e1 := Grew.cell hB (HX.out (k-1) hj).2
        have d2 : decide (L[k].1 ≤ L[k-1].1) = false := decide_eq_false (by omega)
        have hx1 := (HX.out k hlt).2
        have dk : decide (k < L.length) = true := decide_eq_true hlt
        have dk0 : decide (0 < k) = true := decide_eq_true (by omega)
        cases hgo : L[k].2 with
        | false =>
          rw [hgo] at c1 HAk hx1
          simp only [Bool.not_false] at HAk
          clear r1 r2 r3 r4 r5 hgo r31 r32
          generalize L[k].1 = x at *
          generalize L[k-1].1 = y at *
          generalize L[k-1].2 = yb at *
          generalize atR (flat s.gs) x = ch at *
          go_wp2_with (fail)
          go_quiet (fail)
          go_wp2_with (go_at_call 16; (with_reducible refine (HAk.out _ (below_drew wr nq)).mono ?_); rintro e w4 ⟨rfl, l4, b4⟩; have l4' := l4.boxed (.cells #[.int .i64 ch.cr, .int .i64 ch.rev, .int .i64 ch.ver] SeenT); have B4 := hB.trans ((((below_drew wr nq).trans (b4.mono (Nat.le_refl _))).trans ((alloc_below w4 (.cells #[.int .i64 ch.cr, .int .i64 ch.rev, .int .i64 ch.ver] SeenT)).mono b4.size)).mono hsz); have y1 := Grew.cell B4 hx1)
          go_roundw
          case rel => exact ⟨k + 1, hlt, by go_num, l4', B4⟩
          case measure => simp [intOf]; omega
        | true =>
          have hyb := r32 hgo
          rw [hgo] at c1 HAk hx1
          rw [hyb] at e1
          have d3 : ((k : Int) == 0) = false := by rw [beq_eq_false_iff_ne]; omega
          simp only [Bool.not_true] at HAk
          clear r1 r2 r3 r4 r5 hgo r31 r32 hyb
          generalize L[k].1 = x at *
          generalize L[k-1].1 = y at *
          generalize atR (flat s.gs) x = ch at *
          go_wp2_with (fail)
          go_quiet (fail)
          go_wp2_with (go_at_call 16; (with_reducible refine (HAk.out _ (below_drew wr nq)).mono ?_); rintro e w4 ⟨rfl, l4, b4⟩; have l4' := l4.boxed (.cells #[.int .i64 ch.cr, .int .i64 ch.rev, .int .i64 ch.ver] SeenT); have B4 := hB.trans ((((below_drew wr nq).trans (b4.mono (Nat.le_refl _))).trans ((alloc_below w4 (.cells #[.int .i64 ch.cr, .int .i64 ch.rev, .int .i64 ch.ver] SeenT)).mono b4.size)).mono hsz); have y1 := Grew.cell B4 hx1)
          go_roundw
          case rel => exact ⟨k + 1, hlt, by go_num, l4', B4⟩
          case measure => simp [intOf]; omega
    · obtain rfl : k = L.length := by omega
      obtain ⟨r1, r2⟩ := HRE.out
      have hm1 : L.length - 1 < L.length := by omega
      have c0 := Grew.cell hB (HX.out _ hm1).1
      have c1 := Grew.cell hB (HX.out _ hm1).2
      have hsz := hB.size
      have HA2 := Lib.hid (HA.out 1099511627776 200 (by decide) wr hW)
      rw [r2] at HA2
      rw [r1] at c0
      have d1 : decide (0 < L.length) = true := decide_eq_true hn
      have d2 : ((L.length : Int) == 0) = false := by rw [beq_eq_false_iff_ne]; omega
      clear r1 r2
      generalize L[L.length - 1].2 = gb at *
      generalize atR (flat s.gs) 1099511627776 = ch at *
      go_wp2_with (go_at_call 16; (with_reducible refine HA2.out.mono ?_); rintro e w4 ⟨rfl, l4, b4⟩; have l4' := l4.boxed (.cells #[.int .i64 ch.cr, .int .i64 ch.rev, .int .i64 ch.ver] SeenT); have B4 := b4.trans ((alloc_below w4 (.cells #[.int .i64 ch.cr, .int .i64 ch.rev, .int .i64 ch.ver] SeenT)).mono b4.size); have c0 := Grew.cell B4 c0; have c1 := Grew.cell B4 c1)
      have hex := Grew.all (w4.alloc (.cells #[.int .i64 ch.cr, .int .i64 ch.rev, .int .i64 ch.ver] SeenT))
      refine wp_region_grew (by kernel_rfl) (by kernel_rfl) ?_
      repeat (first | go_big_quiet_skip | (go_big_quiet_want; first | (refine quiet_load_cell 3 _ rfl ⟨g, (L.length - 1) * 2, none⟩ rfl _ _ Try.underlying3 rfl (fun W hW => Grew.cell hW c0) ?_; simp only [Act.put, List.setIfInBounds_toArray, List.set_cons_succ, List.set_cons_zero]; go_big_quiet_on) | (refine quiet_load_cell 4 _ rfl ⟨g, (L.length - 1) * 2 + 1, none⟩ rfl _ _ Try.underlying4 rfl (fun W hW => Grew.cell hW c1) ?_; simp only [Act.put, List.setIfInBounds_toArray, List.set_cons_succ, List.set_cons_zero]; go_big_quiet_on) | (go_big_quiet_op; first | go_big_quiet_on | (apply Exists.intro; refine ⟨fun W hW => ?_, ?_⟩; (first | exact rfl | (go_at_call 15; with_reducible exact Calls.grew hW (HL.out 200 _ (l4'.in_ hW))) | (go_at_call 21; with_reducible exact Calls.grew hW (HAw.out _))); go_big_quiet_on))))
      refine wpQuiet_nil ?_
      intro w5 hw5
      have B5 := (l4'.in_ hw5).below
      go_wp2
      go_ret
      exact ⟨rfl, B5⟩
/-- THE LAW. -/
theorem gensRises_walk (W : World) (v0 : Value) (h0 : IsOps W v0) :
    Calls Try.prog 6 #[v0] W fun e w' => e = .returned (.bool true) ∧ Below W.heap.size W w' := by
  obtain ⟨L, a, c, rfl, h1, h2, h3, _⟩ := h0
  unfold maxLen at h2
  by_cases hn : sinceG (runK (L.take 200)).gs 0 = []
  · exact rises_nil a c L W h3 (by omega) hn
  · exact rises_some a c L W h3 (by omega) (List.length_pos_iff.2 hn)
end Go.Proofs.Ytnliapdhmjljiaa
