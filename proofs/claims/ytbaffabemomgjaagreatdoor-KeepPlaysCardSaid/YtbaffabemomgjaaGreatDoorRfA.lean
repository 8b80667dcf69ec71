/- The reference's disk: what is known of it in memory; the walks of its New, at, act, answer, Used, Read and Arm. Conditions: as each theorem says. -/
import Derived.Test.YtbaffabemomgjaaGreatDoorKepR
namespace Go.Proofs.YtbaffabemomgjaaGreatDoor
open Go.RowKit

abbrev RdT : TypeId := 54
abbrev RfT : TypeId := 69
def rfC (p : Bys × Fil) : List Value := [.string (bs p.1), .string (bs p.2.d), .int .i64 p.2.s]
theorem rf_len : ∀ x, (rfC x).length = 3 := fun _ => rfl
theorem rf_one (c : Bys × Fil) : ∀ u ∈ rfC c, u.oneCell' = true := by intro u hu; simp [rfC] at hu; rcases hu with rfl | rfl | rfl <;> rfl
theorem infoRf : (Tryz.prog.info? RfT).map (fun i => (i.zero, i.size, i.bytes)) = some (some (.agg #[.string ⟨#[]⟩, .string ⟨#[]⟩, .int .i64 0]), 3, 40) := by kernel_rfl
abbrev GrowF (base : Nat) (v : Value) (L : Dir) (w : World) : Prop := Grow RfT 3 rfC base v L w
def rdC (v : Value) (d : Dk) : List Value := [v, .int .i64 d.limit, .int .i64 d.armed, .bool d.dead]
structure RdIn (base g : Nat) (d : Dk) (a : Option Addr) (cap : Nat) (w : World) : Prop where
  blk : BlkAt g RdT (rdC (.slice a d.m.length cap) d) w
  rows : GrowF base (.slice a d.m.length cap) d.m w
  le : base ≤ g
def RdAt (base g : Nat) (d : Dk) (w : World) : Prop := ∃ a cap, RdIn base g d a cap w
section
variable {base g : Nat} {d : Dk} {a : Option Addr} {cap : Nat} {w w' : World}
theorem RdIn.grew (h : RdIn base g d a cap w) (hb : Below w.heap.size w w') : RdIn base g d a cap w' := ⟨h.blk.grew hb, h.rows.below hb, h.le⟩
theorem RdAt.grew (h : RdAt base g d w) (hb : Below w.heap.size w w') : RdAt base g d w' := by obtain ⟨a, cap, h⟩ := h; exact ⟨a, cap, h.grew hb⟩
theorem RdIn.off (h : RdIn base g d a cap w) : (Value.slice a d.m.length cap).ownBlock = none ∨ (Value.slice a d.m.length cap).ownBlock ≠ some g := by
  rcases h.rows.2 with ⟨hv, _⟩ | ⟨gb, c, cur, hv, hle, hh, _⟩
  · rw [hv]; exact .inl rfl
  · rw [hv]
    right
    intro e
    have e : gb = g := by simpa [Value.ownBlock] using e
    rw [e] at hh
    have hb := h.blk
    unfold BlkAt at hb
    rw [hb] at hh
    simp only [Option.some.injEq, Obj.cells.injEq] at hh
    exact absurd hh.2.1 (by decide)
theorem RdIn.keep (h : RdIn base g d a cap w) (hg : w.grownBy w' (some g)) : GrowF base (.slice a d.m.length cap) d.m w' := World.ownsRow.kept h.rows hg h.off
theorem blk_away {F : Nat → Prop} {g : Nat} {T : TypeId} {cs : List Value} {w w' : World} (h : BlkAt g T cs w) (hA : Apart F w w') (hF : ¬ F g) : BlkAt g T cs w' := by
  have hl := h.lt
  unfold BlkAt
  rw [hA.block g hl hF]
  exact h
theorem RdIn.apart {F : Nat → Prop} (h : RdIn base g d a cap w) (hA : Apart F w w') (hF : ∀ i, F i → i < base) : RdIn base g d a cap w' :=
  ⟨blk_away h.blk hA (fun hf => by have := hF g hf; have := h.le; omega), h.rows.away hA hF, h.le⟩
theorem RdAt.apart {F : Nat → Prop} (h : RdAt base g d w) (hA : Apart F w w') (hF : ∀ i, F i → i < base) : RdAt base g d w' := by obtain ⟨a, cap, h⟩ := h; exact ⟨a, cap, h.apart hA hF⟩
theorem RdIn.get (h : RdIn base g d a cap w) (i : Nat) (hi : i < d.m.length) : ∃ gb, a = some ⟨gb, 0, none⟩ ∧ base ≤ gb ∧ w.cell? ⟨gb, i * 3, none⟩ = some (.string (bs d.m[i].1)) ∧ w.cell? ⟨gb, i * 3 + 1, none⟩ = some (.string (bs d.m[i].2.d)) ∧ w.cell? ⟨gb, i * 3 + 2, none⟩ = some (.int .i64 d.m[i].2.s) := by
  obtain ⟨gb, c, hv, hle⟩ := h.rows.form (by omega)
  have ha : a = some ⟨gb, 0, none⟩ := by simp only [Value.slice.injEq] at hv; exact hv.1
  have hr := h.rows.cells rf_len hv i hi
  exact ⟨gb, ha, hle, hr 0 _ rfl, hr 1 _ rfl, hr 2 _ rfl⟩
/-- The call's own frame: only what lies from 'base' on has changed. -/
abbrev Up (base : Nat) : Nat → Prop := fun i => base ≤ i
def RdDone (base g : Nat) (d : Dk) (r : Int) (w : World) (e : Ending) (w' : World) : Prop := e = .returned (.int .i64 r) ∧ RdAt base g d w' ∧ Apart (Up base) w w'
theorem up_refl : Apart (Up base) w w := Apart.refl _ _
theorem up_trans {w1 w2 w3 : World} (h : Apart (Up base) w1 w2) (k : Apart (Up base) w2 w3) : Apart (Up base) w1 w3 := h.trans k (fun i hi => .inl hi)
theorem up_below (h : Below w.heap.size w w') : Apart (Up base) w w' := Apart.of_below h
theorem up_grown {row : Option Nat} (h : w.grownBy w' row) (hr : ∀ g, row = some g → base ≤ g) : Apart (Up base) w w' := Apart.of_grown h (fun g hg => .inl (hr g hg))
/-- A disk whose files' row is a new one. -/
def RdNew (nb g : Nat) (d : Dk) (w : World) : Prop := ∃ a cap, BlkAt g RdT (rdC (.slice a d.m.length cap) d) w ∧ GrowF nb (.slice a d.m.length cap) d.m w
theorem RdNew.at_ {nb : Nat} (h : RdNew nb g d w) (h1 : base ≤ nb) (h2 : base ≤ g) : RdAt base g d w := by
  obtain ⟨a, cap, hb, hG⟩ := h
  exact ⟨a, cap, hb, hG.mono h1, h2⟩
theorem RdNew.set {nb : Nat} (h : RdNew nb g d w) {b : Nat} (hb : b < nb) (hne : b ≠ g) (i : Nat) (v : Value) : RdNew nb g d (w.setCell ⟨b, i, none⟩ v) := by
  obtain ⟨a, cap, hk, hG⟩ := h
  refine ⟨a, cap, ?_, hG.past hb i v⟩
  unfold BlkAt at hk ⊢
  rw [heap_setCell_other _ _ _ _ (fun e => hne (by simpa using e.symm))]
  exact hk
/-- Only the disk's own block has changed. -/
abbrev Just (g : Nat) : Nat → Prop := fun i => i = g
theorem just_up (h : Apart (Just g) w w') (hle : base ≤ g) : Apart (Up base) w w' := h.mono (fun i hi => by have : i = g := hi; show base ≤ i; omega)
theorem just_set {W : World} (hB : Below w.heap.size w W) (i : Nat) (v : Value) : Apart (Just g) w (W.setCell ⟨g, i, none⟩ v) :=
  (Apart.of_below (F := Just g) hB).trans (Apart.of_grown (F := Just g) (grown_set W g i v) (fun q hq => .inl (Option.some.inj hq).symm)) (fun i hi => .inl hi)
def AtIs (M : Dir) (k : Bys) (r : Int) : Prop := (∃ (i : Nat) (h : i < M.length), r = (i : Int) ∧ M[i].1 = k) ∨ (r = -1 ∧ ∀ p ∈ M, p.1 ≠ k)
theorem AtIs.some {M : Dir} (hs : M.sorted) {i : Nat} (h : i < M.length) : getM M M[i].1 = Option.some M[i].2 := get_of_mem hs (List.getElem_mem h)
set_option maxRecDepth 100000 in
theorem rnewBad_any (n : Int) (hn : n < 1 ∨ 1073741824 < n) (w : World) : Calls Tryz.prog 5 #[.int .i64 n] w fun e w' => e = .returned (.tuple #[.pointer none, .int .i64 1]) ∧ w = w' := by
  by_cases h : n < 1
  · have q1 : decide (n < 1) = true := decide_eq_true h
    clear hn
    go_enter Tryz.func5, Tryz.ntmps5
    go_wp2
    go_ret2
    exact ⟨rfl, rfl⟩
  · have q1 : decide (n < 1) = false := decide_eq_false h
    have q2 : decide (1073741824 < n) = true := decide_eq_true (by omega)
    clear hn
    go_enter Tryz.func5, Tryz.ntmps5
    go_wp2
    go_ret2
    exact ⟨rfl, rfl⟩
set_option maxRecDepth 100000 in
theorem rnew_any (n : Int) (h1 : 1 ≤ n) (h2 : n ≤ 1073741824) (w : World) : Calls Tryz.prog 5 #[.int .i64 n] w fun e w' => e = .returned (.tuple #[ptrV w.heap.size, .int .i64 0]) ∧ RdAt w.heap.size w.heap.size (newD n) w' ∧ Below w.heap.size w w' := by
  have q1 : decide (n < 1) = false := decide_eq_false (by omega)
  have q2 : decide (1073741824 < n) = false := decide_eq_false (by omega)
  have HD : Hid (RdAt w.heap.size w.heap.size (newD n) (w.alloc (.cells (rdC (.slice none 0 0) (newD n)).toArray RdT))) := Lib.hid ⟨none, 0, BlkAt.alloc_new w (rdC (.slice none 0 0) (newD n)) RdT, Grow.nil _, Nat.le_refl _⟩
  have HB := Lib.hid (fun o => alloc_below w o)
  unfold rdC newD at HD
  simp only at HD
  unfold ptrV
  go_enter Tryz.func5, Tryz.ntmps5
  go_wp2
  go_ret2
  exact ⟨rfl, HD.out, HB.out _⟩
set_option maxRecDepth 100000 in
theorem answer_any (q : Bool) (w : World) : Calls Tryz.prog 46 #[.bool q] w fun e w' => e = .returned (.int .i64 (if q then 0 else 20)) ∧ w = w' := by
  cases q
  · go_enter Tryz.func46, Tryz.ntmps46
    go_wp2
    go_ret
    exact ⟨rfl, rfl⟩
  · go_enter Tryz.func46, Tryz.ntmps46
    go_wp2
    go_ret
    exact ⟨rfl, rfl⟩
set_option maxRecDepth 100000 in
set_option maxHeartbeats 1000000 in
theorem at_any (h : RdAt base g d w) (hn : d.m.length < 1000000) (k : Bys) : Calls Tryz.prog 44 #[ptrV g, strV k] w fun e w' => ∃ r, e = .returned (.int .i64 r) ∧ AtIs d.m k r ∧ w = w' := by
  obtain ⟨a, cap, h⟩ := h
  have c0 := h.blk.cell (i := 0) rfl
  have H := Lib.hid h
  clear h
  unfold ptrV strV
  go_enter Tryz.func44, Tryz.ntmps44
  go_wp2
  go_loop [5] (fun v5 => ∃ i : Nat, v5 = .int .i64 (i : Int) ∧ i ≤ d.m.length ∧ ∀ j (hj : j < d.m.length), j < i → d.m[j].1 ≠ k) (fun v5 => d.m.length - (intOf v5).toNat)
  case atStart => exact ⟨0, rfl, by omega, fun j _ hj => by omega⟩
  case round =>
    obtain ⟨i, rfl, hi, hno⟩ := hrel
    have HNo := Lib.hid hno
    clear hno
    by_cases hlt : i < d.m.length
    · have q0 : decide (i < d.m.length) = true := decide_eq_true hlt
      obtain ⟨gb, rfl, _, r0, r1, r2⟩ := H.out.get i hlt
      by_cases he : d.m[i].1 = k
      · as_aux_lemma =>
        have q1 : ((bs d.m[i].1).toList == (bs k).toList) = true := by rw [he]; exact beq_self_eq_true _
        have HE := Lib.hid he
        clear he r1 r2
        go_wp2
        go_ret
        exact ⟨_, rfl, .inl ⟨i, hlt, rfl, HE.out⟩, rfl⟩
      · as_aux_lemma =>
        have q1 : ((bs d.m[i].1).toList == (bs k).toList) = false := by rw [beq_eq_false_iff_ne, bs_toList, bs_toList]; exact he
        have HNo2 := Lib.hid (show ∀ j (hj : j < d.m.length), j < i + 1 → d.m[j].1 ≠ k from fun j hj hj2 => by
          by_cases e : j = i
          · subst e; exact he
          · exact HNo.out j hj (by omega))
        clear he r1 r2
        go_wp2
        go_round
        case rel => exact ⟨i + 1, by go_num, by omega, HNo2.out⟩
        case measure => simp [intOf]; omega
    · as_aux_lemma =>
      have q0 : decide (i < d.m.length) = false := decide_eq_false hlt
      go_wp2
      go_ret
      exact ⟨_, rfl, .inr ⟨rfl, fun p hp => by obtain ⟨j, hj, rfl⟩ := List.getElem_of_mem hp; exact HNo.out j hj (by omega)⟩, rfl⟩
set_option maxRecDepth 100000 in
set_option maxHeartbeats 1000000 in
theorem ract_any (h : RdAt base g d w) (hf : d.fit) : Calls Tryz.prog 47 #[ptrV g] w fun e w' => e = .returned (.bool (!(actD d).dead)) ∧ RdAt base g (actD d) w' ∧ w.grownBy w' (some g) := by
  obtain ⟨a, cap, h⟩ := h
  obtain ⟨ha0, ha1⟩ := hf.armed
  have c2 := h.blk.cell (i := 2) rfl
  have c3 := h.blk.cell (i := 3) rfl
  have fg : ∀ i, w.frozen? ⟨g, i, none⟩ = false := h.blk.frozen
  have hgl := h.blk.lt
  have HH := Lib.hid h
  clear h hf
  by_cases hp : 0 < d.armed
  · have e1 : actD d = { d with armed := d.armed - 1, dead := decide (d.armed - 1 = 0) } := by unfold actD; rw [if_pos hp]
    have hq : ∃ q : Bool, decide (d.armed - 1 = 0) = q ∧ ((d.armed - 1 : Int) == 0) = q := ⟨_, rfl, by rw [Bool.eq_iff_iff]; simp⟩
    obtain ⟨q, hq1, hq2⟩ := hq
    have hb := (HH.out.blk.set 2 (.int .i64 (d.armed - 1))).set 3 (.bool q)
    have hg : w.grownBy _ (some g) := (grown_set w g 2 (.int .i64 (d.armed - 1))).trans (grown_set _ g 3 (.bool q))
    have HE : Hid (actD d = { d with armed := d.armed - 1, dead := q }) := Lib.hid (by rw [e1, hq1])
    have HD : Hid (RdAt base g { d with armed := d.armed - 1, dead := q } ((w.setCell ⟨g, 2, none⟩ (.int .i64 (d.armed - 1))).setCell ⟨g, 3, none⟩ (.bool q))) :=
      Lib.hid ⟨a, cap, hb, HH.out.keep hg, HH.out.le⟩
    have HG := Lib.hid hg
    clear e1 hq1 hb hg
    rw [HE.out]
    unfold ptrV at *
    have ha2 : 0 ≤ d.armed - 1 := by omega
    go_enter Tryz.func47, Tryz.ntmps47
    go_wp2
    go_ret
    exact ⟨rfl, HD.out, HG.out⟩
  · have e1 : actD d = d := by unfold actD; rw [if_neg hp]
    rw [e1]
    have hp0 : decide (0 < d.armed) = false := decide_eq_false hp
    unfold ptrV at *
    clear e1
    go_enter Tryz.func47, Tryz.ntmps47
    go_wp2
    go_ret
    exact ⟨rfl, ⟨a, cap, HH.out⟩, grown_refl _ _⟩
end
end Go.Proofs.YtbaffabemomgjaaGreatDoor
