/- The walks of value's within, right of a number, nums, flag. Conditions: as each theorem says. -/
import Derived.Test.YtlbacddgjagcbaaPackL
import Derived.Test.YtlbacddgjagcbaaEnt
import Derived.Test.YtlbacddgjagcbaaBlk
namespace Go.Proofs.Ytlbacddgjagcbaa
open Go.RowKit

def IntsAt (g : Nat) (l : List Int) (w : World) : Prop := BlkAt g 3 (l.map fun n => Value.int .i64 n) w
theorem IntsAt.cell {g : Nat} {l : List Int} {w : World} (h : IntsAt g l w) (i : Nat) (hi : i < l.length) : w.cell? ⟨g, i, none⟩ = some (.int .i64 l[i]) := BlkAt.cell h (by simp [hi])
theorem IntsAt.grew {g : Nat} {l : List Int} {w w' : World} (h : IntsAt g l w) (hb : Below w.heap.size w w') : IntsAt g l w' := BlkAt.grew h hb
theorem IntsAt.lt {g : Nat} {l : List Int} {w : World} (h : IntsAt g l w) : g < w.heap.size := BlkAt.lt h
/-- A number is within. -/
def inB (n : Int) : Bool := decide (0 ≤ n) && decide (n ≤ 1099511627776)
def withinB (l : List Int) : Bool := l.all inB
set_option maxRecDepth 100000 in
theorem within1_any (n : Int) (w : World) : Calls Try.prog 84 #[.int .i64 n] w fun e w' => e = .returned (.bool (!inB n)) ∧ w = w' := by
  have HI : Hid ((!inB n) = (decide (n < 0) || decide (1099511627776 < n))) := by
    show _ = _
    unfold inB
    rw [Bool.eq_iff_iff]
    simp
  generalize (!inB n) = R at *
  by_cases h1 : n < 0
  · as_aux_lemma =>
    have t1 : decide (n < 0) = true := decide_eq_true h1
    go_enter Try.func84, Try.ntmps84
    go_wp2
    go_ret
    exact ⟨by rw [HI.out, t1]; rfl, rfl⟩
  · as_aux_lemma =>
    have t1 : decide (n < 0) = false := decide_eq_false h1
    go_enter Try.func84, Try.ntmps84
    go_wp2
    go_ret
    exact ⟨by rw [HI.out, t1, Bool.false_or]; rfl, rfl⟩
/-- Where the first number that is not within is; -1: all are. -/
def outI (l : List Int) : Int := if withinB l = true then -1 else (l.findIdx fun n => !inB n : Int)
theorem within_take (l : List Int) (i : Nat) (hi : i < l.length) (h : withinB (l.take i) = true) : withinB (l.take (i + 1)) = inB l[i] := by
  unfold withinB at *
  rw [List.take_succ_eq_append_getElem hi, List.all_append, h]
  simp
theorem outI_at (l : List Int) (i : Nat) (hi : i < l.length) (h : withinB (l.take i) = true) (h1 : inB l[i] = false) : outI l = (i : Int) := by
  have hw : withinB l ≠ true := by
    intro hh
    unfold withinB at hh
    rw [List.all_eq_true] at hh
    have := hh l[i] (List.getElem_mem hi)
    rw [h1] at this
    cases this
  unfold outI
  rw [if_neg hw]
  congr 1
  rw [List.findIdx_eq hi]
  refine ⟨by simp [h1], fun j hj => ?_⟩
  unfold withinB at h
  rw [List.all_eq_true] at h
  have := h l[j] (by
    have : j < (l.take i).length := by rw [List.length_take]; omega
    rw [show l[j] = (l.take i)[j] by simp]
    exact List.getElem_mem this)
  simp [this]
set_option maxRecDepth 100000 in
set_option maxHeartbeats 400000 in
theorem indexInts_any (l : List Int) (g n : Nat) (hn : l.length = n) (hl : n ≤ 1000) (w : World) (h : IntsAt g l w) :
    Calls Try.prog 89 #[.slice (some ⟨g, 0, none⟩) n n, .func (Fn.func 84) #[] #[]] w fun e w' => e = .returned (.int .i64 (outI l)) ∧ w = w' := by
  have HI := Lib.hid (outI_at l)
  have HE : Hid (withinB l = true → outI l = -1) := fun hh => by unfold outI; rw [if_pos hh]
  generalize outI l = R at *
  go_enter Try.func89, Try.ntmps89
  go_wp2
  go_loop [8] (fun v8 => ∃ (i : Nat), v8 = .int .i64 (i : Int) ∧ i ≤ n ∧ Hid (withinB (l.take i) = true)) (fun v8 => n - (intOf v8).toNat)
  case atStart => exact ⟨0, rfl, by omega, by show _ = _; simp [withinB]⟩
  case round =>
    obtain ⟨i, rfl, hi, hw⟩ := hrel
    by_cases hp : i < n
    · have hp2 : i < l.length := by omega
      have hc := h.cell i hp2
      have HP := Lib.hid (fun X => within1_any l[i] X)
      by_cases hb : inB l[i] = true
      · as_aux_lemma =>
        have HW : Hid (withinB (l.take (i + 1)) = true) := by show _ = _; rw [within_take l i hp2 hw.out]; exact hb
        rw [hb] at HP
        clear hb
        go_wp2_with (fail)
        refine (HP.out _).mono ?_
        rintro e w1 ⟨rfl, rfl⟩
        go_wp2
        go_round
        case rel => exact ⟨i + 1, by go_num, by omega, HW⟩
        case measure => simp [intOf]; omega
      · as_aux_lemma =>
        have hb' : inB l[i] = false := by simpa using hb
        have HR : Hid (R = (i : Int)) := HI.out i hp2 hw.out hb'
        rw [hb'] at HP
        clear hb hb'
        go_wp2_with (fail)
        refine (HP.out _).mono ?_
        rintro e w1 ⟨rfl, rfl⟩
        go_wp2
        go_ret
        exact ⟨by rw [HR.out]; rfl, rfl⟩
    · as_aux_lemma =>
      have HR : Hid (R = -1) := HE.out (by have := hw.out; rw [List.take_of_length_le (by omega)] at this; exact this)
      go_wp2
      go_ret
      exact ⟨by rw [HR.out]; rfl, rfl⟩
set_option maxRecDepth 100000 in
theorem containsInts_any (l : List Int) (g n : Nat) (hn : l.length = n) (hl : n ≤ 1000) (w : World) (h : IntsAt g l w) :
    Calls Try.prog 83 #[.slice (some ⟨g, 0, none⟩) n n, .func (Fn.func 84) #[] #[]] w fun e w' => e = .returned (.bool (!withinB l)) ∧ w = w' := by
  have HI := Lib.hid (indexInts_any l g n hn hl w h)
  have HR : Hid (decide (0 ≤ outI l) = !withinB l) := by
    show _ = _
    unfold outI
    by_cases hw : withinB l = true
    · rw [if_pos hw, hw]; rfl
    · rw [if_neg hw]
      have : withinB l = false := by simpa using hw
      rw [this]
      exact decide_eq_true (by omega)
  generalize outI l = I at *
  go_enter Try.func83, Try.ntmps83
  go_wp2_with (fail)
  refine HI.out.mono ?_
  rintro e w1 ⟨rfl, rfl⟩
  go_wp2
  go_ret
  exact ⟨by rw [← HR.out]; rfl, rfl⟩
set_option maxRecDepth 100000 in
theorem within_any (l : List Int) (g n : Nat) (hn : l.length = n) (hl : n ≤ 1000) (w : World) (h : IntsAt g l w) :
    Calls Try.prog 71 #[.slice (some ⟨g, 0, none⟩) n n] w fun e w' => e = .returned (.bool (withinB l)) ∧ w = w' := by
  have HI := Lib.hid (containsInts_any l g n hn hl w h)
  have HR : Hid ((!!withinB l) = withinB l) := by show _ = _; simp
  generalize withinB l = B at *
  go_enter Try.func71, Try.ntmps71
  go_wp2_with (fail)
  refine HI.out.mono ?_
  rintro e w1 ⟨rfl, rfl⟩
  go_wp2
  go_ret
  exact ⟨by first | rfl | (rw [← HR.out]; rfl), rfl⟩

def zxidV (t : Int × Int) : Value := .agg #[.int .i64 t.1, .int .i64 t.2]
def zxB (z : Int × Int) : Bool := withinB [z.1, z.2]
set_option maxRecDepth 100000 in
theorem zxRight_any (z : Int × Int) (w : World) : Calls Try.prog 70 #[zxidV z] w fun e w' => e = .returned (.bool (zxB z)) ∧ Below w.heap.size w w' := by
  obtain ⟨a, b⟩ := z
  have HW := Lib.hid (fun g X hX => within_any [a, b] g 2 rfl (by omega) X hX)
  have HB : Hid (∀ o1 o2, Below w.heap.size w ((w.alloc o1).alloc o2)) := fun o1 o2 => ((Below.refl _ w).alloc (Nat.le_refl _) _).alloc (by simp) _
  have HX : Hid (∀ o, IntsAt (w.heap.size + 1) [a, b] ((w.alloc o).alloc (.cells #[.int .i64 a, .int .i64 b] 3))) := fun o => by
    have h := heap_alloc_new (w.alloc o) (.cells #[.int .i64 a, .int .i64 b] 3)
    rw [show (w.alloc o).heap.size = w.heap.size + 1 by simp] at h
    exact h
  unfold zxB zxidV
  generalize withinB [a, b] = R at *
  go_enter Try.func70, Try.ntmps70
  go_wp2_with (fail)
  refine (HW.out _ _ (HX.out _)).mono ?_
  rintro e w1 ⟨rfl, rfl⟩
  go_wp2
  go_ret
  exact ⟨rfl, HB.out _ _⟩
set_option maxRecDepth 100000 in
theorem flag_any (b : Bool) (w : World) : Calls Try.prog 57 #[.bool b] w fun e w' => e = .returned (.int .i64 (if b = true then 1 else 0)) ∧ w = w' := by
  cases b
  · go_enter Try.func57, Try.ntmps57
    go_wp2
    go_ret
    exact ⟨rfl, rfl⟩
  · go_enter Try.func57, Try.ntmps57
    go_wp2
    go_ret
    exact ⟨rfl, rfl⟩
def i64B (n : Int) : Prop := -9223372036854775808 ≤ n ∧ n ≤ 9223372036854775807
def numsL (l : List Int) : List UInt8 := l.flatMap numL
theorem numsL_len (l : List Int) (h : ∀ n ∈ l, i64B n) : (numsL l).length ≤ 10 * l.length := by
  induction l with
  | nil => simp [numsL]
  | cons n l ih =>
    have h1 := numSize n (h n (by simp)).1 (h n (by simp)).2
    rw [bs_size] at h1
    have h2 := ih (fun n hn => h n (by simp [hn]))
    unfold numsL at *
    rw [List.flatMap_cons, List.length_append, List.length_cons]
    omega
theorem numsL_step (l : List Int) (i : Nat) (hi : i < l.length) : numsL (l.take (i + 1)) = numsL (l.take i) ++ numL l[i] := by
  unfold numsL
  rw [List.take_succ_eq_append_getElem hi, List.flatMap_append]
  simp
abbrev BIs (B b : Nat) (l : List UInt8) (w : World) : Prop := Lib.IsBuilder 85 5 B b (byteCells l) w
theorem bat_kept {B b : Nat} {p : Value} {cs : List Value} {w w' : World} (h : Lib.BuilderAt 85 5 B b p cs w) (hk : ∀ (g : Nat) (c : Array Value) (t : TypeId) (z : Nat × Nat), w.heap[g]? = some (Obj.cells c t z) → w'.heap[g]? = some (Obj.cells c t z)) : Lib.BuilderAt 85 5 B b p cs w' := by
  obtain ⟨hB, v, hbk, hown, hne⟩ := h
  refine ⟨hB, v, hk _ _ _ _ hbk, ⟨hown.1, ?_⟩, hne⟩
  rcases hown.2 with h2 | ⟨g, cap, cur, hv, hg, hh, r⟩
  · exact .inl h2
  · exact .inr ⟨g, cap, cur, hv, hg, hk _ _ _ _ hh, r⟩
theorem BIs.below {B b : Nat} {l : List UInt8} {w w' : World} (h : BIs B b l w) (hb : Below w.heap.size w w') : BIs B b l w' := by
  rcases h with h | h
  · exact .inl (bat_kept h fun _ _ _ _ hg => Grew.at_ hb hg)
  · exact .inr (bat_kept h fun _ _ _ _ hg => Grew.at_ hb hg)
set_option maxRecDepth 100000 in
set_option maxHeartbeats 1000000 in
theorem nums_any (l : List Int) (g n : Nat) (hn : l.length = n) (hl : n ≤ 1000) (hr : ∀ x ∈ l, i64B x) (w : World) (h : IntsAt g l w) :
    Calls Try.prog 54 #[.slice (some ⟨g, 0, none⟩) n n] w fun e w' => e = .returned (.string (bs (numsL l))) ∧ Below w.heap.size w w' := by
  have HH := Lib.hid h
  clear h
  go_enter Try.func54, Try.ntmps54
  go_wp2_with (fail)
  go_loopw [8] (fun v8 wr => ∃ (i : Nat), v8 = .int .i64 (i : Int) ∧ i ≤ n ∧ BIs w.heap.size w.heap.size (numsL (l.take i)) wr ∧ Below w.heap.size w wr) (fun v8 _ => n - (intOf v8).toNat)
  case atStart => exact ⟨0, rfl, by omega, Lib.fresh_isBuilder 85 5 w, alloc_below w _⟩
  case round =>
    obtain ⟨i, rfl, hi, hI, hbw⟩ := hrel
    by_cases hp : i < n
    · as_aux_lemma =>
      have hp2 : i < l.length := by omega
      have hc := (HH.out.grew hbw).cell i hp2
      have hri := hr _ (List.getElem_mem hp2)
      have hns := numSize l[i] hri.1 hri.2
      rw [bs_size] at hns
      have hlen : (numsL (l.take i)).length ≤ 10 * i := by
        have := numsL_len (l.take i) (fun x hx => hr x (List.mem_of_mem_take hx))
        rw [List.length_take] at this
        omega
      have HN := Lib.hid (fun X => num_any l[i] hri.1 hri.2 X)
      have HS := Lib.hid (numsL_step l i hp2)
      generalize l[i] = x at *
      go_wp2_with (fail)
      refine (HN.out _).mono ?_
      rintro e w1 ⟨rfl, hb1⟩
      have hI1 := BIs.below hI hb1
      have hbw1 := hbw.trans (hb1.mono hbw.size)
      clear hI
      go_wp2_with (fail)
      refine (writeString_any w.heap.size w.heap.size _ (numL x) _ hI1 (by omega) hbw1.size).mono ?_
      rintro e w2 ⟨rfl, hI2, hb2⟩
      go_wp2
      go_roundw
      case rel => exact ⟨i + 1, by go_num, by omega, by rw [HS.out]; exact hI2, hbw1.trans hb2⟩
      case measure => simp [intOf]; omega
    · as_aux_lemma =>
      rw [List.take_of_length_le (by omega)] at hI
      go_wp2_with (fail)
      refine (builderString_any w.heap.size w.heap.size _ _ hI hbw.size).mono ?_
      rintro e w1 ⟨rfl, hb1⟩
      go_wp2
      go_ret
      exact ⟨rfl, hbw.trans hb1⟩
end Go.Proofs.Ytlbacddgjagcbaa
