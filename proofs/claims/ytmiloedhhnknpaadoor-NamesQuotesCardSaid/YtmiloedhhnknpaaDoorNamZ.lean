/- The walks of the chapter's example and of five laws. Conditions: as each theorem says (the table deBruijn64tab as it was laid). -/
import Derived.Test.YtmiloedhhnknpaaDoorNamQ
import Derived.Test.YtmiloedhhnknpaaDoorNamZP
namespace Go.Proofs.YtmiloedhhnknpaaDoor
open Go.RowKit

theorem ka1 : runesI [195, 169] = 1 := by decide +kernel
theorem ka2 : runesI [195] = -1 := by decide +kernel
theorem ka3 : runesI [237, 160, 128] = -1 := by decide +kernel
theorem ka4 : nextL [97, 98] = [97, 99] := by decide +kernel
theorem ka5 : quoteL [97, 32, 98] = [97, 92, 117, 123, 50, 48, 125, 98] := by decide +kernel
set_option maxRecDepth 1000000 in
theorem awake_any (w : World) (hd : DebAt w) : Calls Tryd.prog 12 #[] w fun e w' => e = .returned (.bool true) ∧ Below w.heap.size w w' := by
  have A1 : Hid (∀ W, Calls Tryd.prog 16 #[.string ⟨#[195, 169]⟩] W fun e w' => e = .returned (.int .i64 1) ∧ Below W.heap.size W w') := fun W => by
    have h := runes_any ⟨#[195, 169]⟩ W (by decide)
    rw [show runesI (⟨#[195, 169]⟩ : ByteArray).data.toList = 1 from ka1] at h
    exact h
  have A2 : Hid (∀ W, Calls Tryd.prog 16 #[.string ⟨#[195]⟩] W fun e w' => e = .returned (.int .i64 (-1)) ∧ Below W.heap.size W w') := fun W => by
    have h := runes_any ⟨#[195]⟩ W (by decide)
    rw [show runesI (⟨#[195]⟩ : ByteArray).data.toList = -1 from ka2] at h
    exact h
  have A3 : Hid (∀ W, Calls Tryd.prog 16 #[.string ⟨#[237, 160, 128]⟩] W fun e w' => e = .returned (.int .i64 (-1)) ∧ Below W.heap.size W w') := fun W => by
    have h := runes_any ⟨#[237, 160, 128]⟩ W (by decide)
    rw [show runesI (⟨#[237, 160, 128]⟩ : ByteArray).data.toList = -1 from ka3] at h
    exact h
  have A4 : Hid (∀ W, Calls Tryd.prog 10 #[.string ⟨#[97, 98]⟩] W fun e w' => e = .returned (.string ⟨#[97, 99]⟩) ∧ Below W.heap.size W w') := fun W => by
    have h := next_any ⟨#[97, 98]⟩ W (by decide)
    rw [show nextL (⟨#[97, 98]⟩ : ByteArray).data.toList = [97, 99] from ka4] at h
    exact h
  have A5 : Hid (∀ W, DebAt W → Calls Tryd.prog 13 #[.string ⟨#[97, 32, 98]⟩] W fun e w' => e = .returned (.string ⟨#[97, 92, 117, 123, 50, 48, 125, 98]⟩) ∧ Below W.heap.size W w') := fun W hW => by
    have h := quote_any ⟨#[97, 32, 98]⟩ W (by decide) hW
    rw [show quoteL (⟨#[97, 32, 98]⟩ : ByteArray).data.toList = [97, 92, 117, 123, 50, 48, 125, 98] from ka5] at h
    exact h
  have Hd := Lib.hid hd
  clear hd
  go_enter Tryd.func12, Tryd.ntmps12
  go_wp2_with (fail)
  refine (A1.out _).mono ?_
  rintro e w1 ⟨rfl, b1⟩
  go_wp2_with (fail)
  refine (A2.out _).mono ?_
  rintro e w2 ⟨rfl, b2⟩
  have b2 := b1.trans (b2.mono b1.size)
  go_wp2_with (fail)
  refine (A3.out _).mono ?_
  rintro e w3 ⟨rfl, b3⟩
  have b3 := b2.trans (b3.mono b2.size)
  go_wp2_with (fail)
  refine (A4.out _).mono ?_
  rintro e w4 ⟨rfl, b4⟩
  have b4 := b3.trans (b4.mono b3.size)
  go_wp2_with (fail)
  refine (A5.out _ (Hd.out.below b4)).mono ?_
  rintro e w5 ⟨rfl, b5⟩
  have b5 := b4.trans (b5.mono b4.size)
  go_wp2
  go_ret
  exact ⟨rfl, b5⟩

set_option maxRecDepth 1000000 in
theorem namesNext_walk (W : World) (hd : DebAt W) (s : ByteArray) :
    Calls Tryd.prog 3 #[.string s] W fun e w' => e = .returned (.bool true) ∧ Below W.heap.size W w' := by
  have HA := Lib.hid (fun X hX => awake_any X hX)
  have Hd := Lib.hid hd
  clear hd
  by_cases h : 2000 < s.size
  · as_aux_lemma =>
    have d1 : decide (2000 < (s.size : Int)) = true := decide_eq_true (by omega)
    go_enter Tryd.func3, Tryd.ntmps3
    go_wp2_with (fail)
    refine (HA.out _ Hd.out).mono ?_
    rintro e w1 ⟨rfl, b1⟩
    go_wp2
    go_ret
    exact ⟨rfl, b1⟩
  · as_aux_lemma =>
    have d1 : decide (2000 < (s.size : Int)) = false := decide_eq_false (by omega)
    have H1 := Lib.hid (fun X => next_any s X (by omega))
    have H2 := Lib.hid (fun X => refNext_any s X (by omega))
    go_enter Tryd.func3, Tryd.ntmps3
    go_wp2_with (fail)
    refine (H1.out _).mono ?_
    rintro e w1 ⟨rfl, b1⟩
    go_wp2_with (fail)
    refine (H2.out _).mono ?_
    rintro e w2 ⟨rfl, b2⟩
    have b2 := b1.trans (b2.mono b1.size)
    go_wp2_with (fail)
    refine (HA.out _ (Hd.out.below b2)).mono ?_
    rintro e w3 ⟨rfl, b3⟩
    have b3 := b2.trans (b3.mono b2.size)
    go_wp2
    go_ret
    exact ⟨rfl, b3⟩

set_option maxRecDepth 1000000 in
theorem namesKeys_walk (W : World) (hd : DebAt W) (s : ByteArray) :
    Calls Tryd.prog 7 #[.string s] W fun e w' => e = .returned (.bool true) ∧ Below W.heap.size W w' := by
  have HA := Lib.hid (fun X hX => awake_any X hX)
  have Hd := Lib.hid hd
  clear hd
  by_cases h : 2000 < s.size
  · as_aux_lemma =>
    have d1 : decide (2000 < (s.size : Int)) = true := decide_eq_true (by omega)
    go_enter Tryd.func7, Tryd.ntmps7
    go_wp2_with (fail)
    refine (HA.out _ Hd.out).mono ?_
    rintro e w1 ⟨rfl, b1⟩
    go_wp2
    go_ret
    exact ⟨rfl, b1⟩
  · as_aux_lemma =>
    have d1 : decide (2000 < (s.size : Int)) = false := decide_eq_false (by omega)
    have H1 := Lib.hid (fun X => runes_any s X (by omega))
    have H2 := Lib.hid (fun X => refRunes_any s X (by omega))
    have H3 := Lib.hid (fun X => key_any s X (by omega))
    have H4 := Lib.hid (fun X => refKey_any s X (by omega))
    go_enter Tryd.func7, Tryd.ntmps7
    go_wp2_with (fail)
    refine (H1.out _).mono ?_
    rintro e w1 ⟨rfl, b1⟩
    go_wp2_with (fail)
    refine (H2.out _).mono ?_
    rintro e w2 ⟨rfl, b2⟩
    have b2 := b1.trans (b2.mono b1.size)
    go_wp2_with (fail)
    refine (H3.out _).mono ?_
    rintro e w3 ⟨rfl, b3⟩
    have b3 := b2.trans (b3.mono b2.size)
    go_wp2_with (fail)
    refine (H4.out _).mono ?_
    rintro e w4 ⟨rfl, b4⟩
    have b4 := b3.trans (b4.mono b3.size)
    go_wp2_with (fail)
    refine (HA.out _ (Hd.out.below b4)).mono ?_
    rintro e w5 ⟨rfl, b5⟩
    have b5 := b4.trans (b5.mono b4.size)
    go_wp2
    go_ret
    exact ⟨rfl, b5⟩

set_option maxRecDepth 1000000 in
theorem namesIn_walk (W : World) (hd : DebAt W) (k f e : ByteArray) :
    Calls Tryd.prog 5 #[.string k, .string f, .string e] W fun r w' => r = .returned (.bool true) ∧ Below W.heap.size W w' := by
  have HA := Lib.hid (fun X hX => awake_any X hX)
  have H1 := Lib.hid (fun X => in_any k f e X)
  have H2 := Lib.hid (fun X => refIn_any k f e X)
  generalize inL k.toList f.toList e.toList = R at *
  have Hd := Lib.hid hd
  clear hd
  by_cases h1 : 2000 < k.size
  · as_aux_lemma =>
    have d1 : decide (2000 < (k.size : Int)) = true := decide_eq_true (by omega)
    go_enter Tryd.func5, Tryd.ntmps5
    go_wp2_with (fail)
    refine (HA.out _ Hd.out).mono ?_
    rintro e w1 ⟨rfl, b1⟩
    go_wp2
    go_ret
    exact ⟨rfl, b1⟩
  have d1 : decide (2000 < (k.size : Int)) = false := decide_eq_false (by omega)
  by_cases h2 : 2000 < f.size
  · as_aux_lemma =>
    have d2 : decide (2000 < (f.size : Int)) = true := decide_eq_true (by omega)
    go_enter Tryd.func5, Tryd.ntmps5
    go_wp2_with (fail)
    refine (HA.out _ Hd.out).mono ?_
    rintro e w1 ⟨rfl, b1⟩
    go_wp2
    go_ret
    exact ⟨rfl, b1⟩
  have d2 : decide (2000 < (f.size : Int)) = false := decide_eq_false (by omega)
  by_cases h3 : 2000 < e.size
  · as_aux_lemma =>
    have d3 : decide (2000 < (e.size : Int)) = true := decide_eq_true (by omega)
    go_enter Tryd.func5, Tryd.ntmps5
    go_wp2_with (fail)
    refine (HA.out _ Hd.out).mono ?_
    rintro e w1 ⟨rfl, b1⟩
    go_wp2
    go_ret
    exact ⟨rfl, b1⟩
  · as_aux_lemma =>
    have d3 : decide (2000 < (e.size : Int)) = false := decide_eq_false (by omega)
    go_enter Tryd.func5, Tryd.ntmps5
    go_wp2_with (fail)
    refine (H1.out _).mono ?_
    rintro e w1 ⟨rfl, rfl⟩
    go_wp2_with (fail)
    refine (H2.out _).mono ?_
    rintro e w2 ⟨rfl, rfl⟩
    go_wp2_with (fail)
    refine (HA.out _ Hd.out).mono ?_
    rintro e w3 ⟨rfl, b3⟩
    go_wp2
    go_ret
    exact ⟨rfl, b3⟩
end Go.Proofs.YtmiloedhhnknpaaDoor
