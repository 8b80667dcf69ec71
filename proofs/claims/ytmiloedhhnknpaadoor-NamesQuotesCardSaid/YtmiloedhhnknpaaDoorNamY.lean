/- The walks of NamesPrefix and NamesApart. Conditions: as each theorem says (the table deBruijn64tab as it was laid). -/
import Derived.Test.YtmiloedhhnknpaaDoorNamT
namespace Go.Proofs.YtmiloedhhnknpaaDoor
open Go.RowKit

def awakeAt : Prop := ∀ X, DebAt X → Calls Tryd.prog 12 #[] X fun e w' => e = .returned (.bool true) ∧ Below X.heap.size X w'
theorem awake_at : awakeAt := fun X hX => awake_any X hX
theorem prefix_begins (s key : ByteArray) (h : s.size ≤ key.size) : ((key.extract 0 s.size).toList == s.toList) = decide (s.data.toList <+: key.data.toList) := by
  rw [ByteArray.toList_eq, ByteArray.toList_eq, Lib.extract_data, Bool.eq_iff_iff, beq_iff_eq, decide_eq_true_eq, List.drop_zero, Nat.sub_zero, Lib.size_eq]
  constructor
  · intro hh; rw [← hh]; exact List.take_prefix _ _
  · intro hh; exact (List.prefix_iff_eq_take.1 hh).symm
theorem prefix_long (s key : ByteArray) (h : ¬ s.size ≤ key.size) : decide (s.data.toList <+: key.data.toList) = false := by
  rw [decide_eq_false_iff_not]
  intro hh
  have := hh.length_le
  rw [← Lib.size_eq, ← Lib.size_eq] at this
  exact h this

set_option maxRecDepth 1000000 in
set_option maxHeartbeats 1000000 in
theorem namesPrefix_walk (W : World) (hd : DebAt W) (s key : ByteArray) :
    Calls Tryd.prog 6 #[.string s, .string key] W fun e w' => e = .returned (.bool true) ∧ Below W.heap.size W w' := by
  have HA := Lib.hid awake_at
  unfold awakeAt at HA
  have Hd := Lib.hid hd
  clear hd
  by_cases h0 : s.size = 0
  · as_aux_lemma =>
    have hz := isNone s h0
    subst hz
    clear h0
    go_enter Tryd.func6, Tryd.ntmps6
    go_wp2_with (fail)
    refine (HA.out _ Hd.out).mono ?_
    rintro e w1 ⟨rfl, b1⟩
    go_wp2
    go_ret
    exact ⟨rfl, b1⟩
  have hne := notEmpty s (by omega)
  by_cases h1 : 500 < s.size
  · as_aux_lemma =>
    have d1 : decide (500 < (s.size : Int)) = true := decide_eq_true (by omega)
    go_enter Tryd.func6, Tryd.ntmps6
    go_wp2_with (fail)
    refine (HA.out _ Hd.out).mono ?_
    rintro e w1 ⟨rfl, b1⟩
    go_wp2
    go_ret
    exact ⟨rfl, b1⟩
  have d1 : decide (500 < (s.size : Int)) = false := decide_eq_false (by omega)
  by_cases h2 : 500 < key.size
  · as_aux_lemma =>
    have d2 : decide (500 < (key.size : Int)) = true := decide_eq_true (by omega)
    go_enter Tryd.func6, Tryd.ntmps6
    go_wp2_with (fail)
    refine (HA.out _ Hd.out).mono ?_
    rintro e w1 ⟨rfl, b1⟩
    go_wp2
    go_ret
    exact ⟨rfl, b1⟩
  have d2 : decide (500 < (key.size : Int)) = false := decide_eq_false (by omega)
  have HN := Lib.hid (fun X => next_any s X (by omega))
  have HI := Lib.hid (fun X => in_any key s (bs (nextL s.data.toList)) X)
  have HJ := Lib.hid (fun X => in_any (s ++ key) s (bs (nextL s.data.toList)) X)
  have e1 : inL key.toList s.toList (bs (nextL s.data.toList)).toList = decide (s.data.toList <+: key.data.toList) := by
    rw [bs_toList, ByteArray.toList_eq, ByteArray.toList_eq, in_next]
  have e2 : inL (s ++ key).toList s.toList (bs (nextL s.data.toList)).toList = true := by
    rw [bs_toList, ByteArray.toList_eq, ByteArray.toList_eq, in_next, toList_app, decide_eq_true_eq]
    exact List.prefix_append _ _
  rw [e1] at HI
  rw [e2] at HJ
  clear e1 e2
  by_cases h3 : s.size ≤ key.size
  · as_aux_lemma =>
    have d3 : decide (s.size ≤ key.size) = true := decide_eq_true h3
    have hp := prefix_begins s key h3
    have hx : (s.size : Int) ≤ (key.size : Int) := by omega
    generalize decide (s.data.toList <+: key.data.toList) = P at *
    generalize nextL s.data.toList = NX at *
    clear h0
    go_enter Tryd.func6, Tryd.ntmps6
    go_wp2_with (fail)
    refine (HN.out _).mono ?_
    rintro e w1 ⟨rfl, b1⟩
    go_wp2_with (fail)
    refine (HI.out _).mono ?_
    rintro e w2 ⟨rfl, rfl⟩
    go_wp2_with (fail)
    refine (HN.out _).mono ?_
    rintro e w3 ⟨rfl, b3⟩
    have b3 := b1.trans (b3.mono b1.size)
    go_wp2_with (fail)
    refine (HJ.out _).mono ?_
    rintro e w4 ⟨rfl, rfl⟩
    go_wp2_with (fail)
    refine (HA.out _ (Hd.out.below b3)).mono ?_
    rintro e w5 ⟨rfl, b5⟩
    have b5 := b3.trans (b5.mono b3.size)
    go_wp2
    go_ret
    exact ⟨rfl, b5⟩
  · as_aux_lemma =>
    have d3 : decide (s.size ≤ key.size) = false := decide_eq_false h3
    rw [prefix_long s key h3] at HI
    generalize nextL s.data.toList = NX at *
    clear h0
    go_enter Tryd.func6, Tryd.ntmps6
    go_wp2_with (fail)
    refine (HN.out _).mono ?_
    rintro e w1 ⟨rfl, b1⟩
    go_wp2_with (fail)
    refine (HI.out _).mono ?_
    rintro e w2 ⟨rfl, rfl⟩
    go_wp2_with (fail)
    refine (HN.out _).mono ?_
    rintro e w3 ⟨rfl, b3⟩
    have b3 := b1.trans (b3.mono b1.size)
    go_wp2_with (fail)
    refine (HJ.out _).mono ?_
    rintro e w4 ⟨rfl, rfl⟩
    go_wp2_with (fail)
    refine (HA.out _ (Hd.out.below b3)).mono ?_
    rintro e w5 ⟨rfl, b5⟩
    have b5 := b3.trans (b5.mono b3.size)
    go_wp2
    go_ret
    exact ⟨rfl, b5⟩

set_option maxRecDepth 1000000 in
set_option maxHeartbeats 1000000 in
theorem namesApart_walk (W : World) (hd : DebAt W) (a b : ByteArray) :
    Calls Tryd.prog 4 #[.string a, .string b] W fun e w' => e = .returned (.bool true) ∧ Below W.heap.size W w' := by
  have HA := Lib.hid awake_at
  unfold awakeAt at HA
  have Hd := Lib.hid hd
  clear hd
  by_cases h1 : 500 < a.size
  · as_aux_lemma =>
    have d1 : decide (500 < (a.size : Int)) = true := decide_eq_true (by omega)
    go_enter Tryd.func4, Tryd.ntmps4
    go_wp2_with (fail)
    refine (HA.out _ Hd.out).mono ?_
    rintro e w1 ⟨rfl, b1⟩
    go_wp2
    go_ret
    exact ⟨rfl, b1⟩
  have d1 : decide (500 < (a.size : Int)) = false := decide_eq_false (by omega)
  by_cases h2 : 500 < b.size
  · as_aux_lemma =>
    have d2 : decide (500 < (b.size : Int)) = true := decide_eq_true (by omega)
    go_enter Tryd.func4, Tryd.ntmps4
    go_wp2_with (fail)
    refine (HA.out _ Hd.out).mono ?_
    rintro e w1 ⟨rfl, b1⟩
    go_wp2
    go_ret
    exact ⟨rfl, b1⟩
  · as_aux_lemma =>
    have d2 : decide (500 < (b.size : Int)) = false := decide_eq_false (by omega)
    have H1 := Lib.hid (fun X hX => quote_any a X (by omega) hX)
    have H2 := Lib.hid (fun X hX => quote_any b X (by omega) hX)
    have hq : ((bs (quoteL a.data.toList)).toList == (bs (quoteL b.data.toList)).toList) = (a.toList == b.toList) := by
      rw [bs_toList, bs_toList, ByteArray.toList_eq, ByteArray.toList_eq]
      exact (quote_apart _ _).symm
    generalize bs (quoteL a.data.toList) = A at *
    generalize bs (quoteL b.data.toList) = B at *
    go_enter Tryd.func4, Tryd.ntmps4
    go_wp2_with (fail)
    refine (H1.out _ Hd.out).mono ?_
    rintro e w1 ⟨rfl, b1⟩
    go_wp2_with (fail)
    refine (H2.out _ (Hd.out.below b1)).mono ?_
    rintro e w2 ⟨rfl, b2⟩
    have b2 := b1.trans (b2.mono b1.size)
    go_wp2_with (fail)
    refine (HA.out _ (Hd.out.below b2)).mono ?_
    rintro e w3 ⟨rfl, b3⟩
    have b3 := b2.trans (b3.mono b2.size)
    go_wp2
    go_ret
    exact ⟨rfl, b3⟩
end Go.Proofs.YtmiloedhhnknpaaDoor
