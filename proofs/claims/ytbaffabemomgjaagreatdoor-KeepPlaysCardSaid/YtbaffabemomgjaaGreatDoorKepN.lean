/- The walks of the keep laws' awake and of KeepNil. Conditions: as each theorem says. -/
import Derived.Test.YtbaffabemomgjaaGreatDoorKepL
namespace Go.Proofs.YtbaffabemomgjaaGreatDoor
open Go.RowKit

/-- A disk that a call has made for itself. -/
structure DkSt (w0 : World) (g b : Nat) (d : Dk) (W : World) : Prop where
  at_ : DkAt g b d W
  bel : Below w0.heap.size w0 W
  gN : w0.heap.size ≤ g
  bN : w0.heap.size ≤ b
section
variable {w0 : World} {g b : Nat} {d d' : Dk} {W W' : World} {e : Ending} {r : Int}
theorem DkSt.grew (h : DkSt w0 g b d W) (hb : Below W.heap.size W W') : DkSt w0 g b d W' := ⟨h.at_.grew hb, h.bel.trans (hb.mono h.bel.size), h.gN, h.bN⟩
theorem DkSt.apart (h : DkSt w0 g b d W) (hd : DkAt g b d' W') (hA : Apart (DkF g b) W W') : DkSt w0 g b d' W' :=
  ⟨hd, h.bel.trans (hA.below h.bel.size (fun i hi => by rcases hi with e | e; rw [e]; exact h.gN; rw [e]; exact h.bN)), h.gN, h.bN⟩
theorem DkSt.done (h : DkSt w0 g b d W) (k : DkDone g b d' r W e W') : e = .returned (.int .i64 r) ∧ DkSt w0 g b d' W' := ⟨k.1, h.apart k.2.1 k.2.2⟩
theorem DkSt.own (h : DkSt w0 g b d W) (hd : DkAt g b d' W') (hg : W.grownBy W' (some g)) : DkSt w0 g b d' W' :=
  h.apart hd (Apart.of_grown hg (fun k hk => .inl (.inl (Option.some.inj hk).symm)))
theorem DkSt.made (w w1 : World) (h1 : w.heap.size ≤ w1.heap.size) (hb1 : Below w.heap.size w w1) (hd : DkAt (w1.heap.size + 1) w1.heap.size d W) (hb : Below w1.heap.size w1 W) : DkSt w (w1.heap.size + 1) w1.heap.size d W := ⟨hd, hb1.trans (hb.mono h1), by omega, h1⟩
end
def epochB : Bys := [101, 112, 111, 99, 104]
def otherB : Bys := [111, 116, 104, 101, 114]
def ka0 : Dk := newD 1000
def ka1 : Dk := { ka0 with m := putM ka0.m (fileN epochB) (encB [55]) }
theorem kfit0 : ka0.fit := newD_fit 1000 (by decide) (by decide)
theorem ka_save : saveD ka0 epochB [55] = (ka1, 0) := save_idle kfit0 rfl rfl (by decide) (by decide) (by decide) (by decide) rfl
theorem kfit1 : ka1.fit := by have := save_fit kfit0 epochB [55]; rw [ka_save] at this; exact this
theorem ka_load : loadD ka1 epochB = ([55], 0) := load_some (s := (frameL [55]).length) rfl (by decide) (by decide) (by decide) (get_put_same kfit0.sorted _ _)
theorem ka_none : loadD ka1 otherB = ([], 21) := load_none rfl (by decide) (by
  show getM (putM [] _ _) _ = none
  rw [get_put_other List.Pairwise.nil (by decide)]; rfl)
set_option maxRecDepth 100000 in
set_option maxHeartbeats 1600000 in
theorem kawake_any (w : World) : Calls Tryz.prog 6 #[] w fun e w' => e = .returned (.bool true) ∧ Below w.heap.size w w' := by
  have HN := Lib.hid (new_any 1000 (by decide) (by decide) w)
  have K1 := Lib.hid (fun (W : World) (h : DkAt (w.heap.size + 1) w.heap.size ka0 W) => save_any h kfit0 (by decide) epochB [55] (by decide) (by decide))
  have K2 := Lib.hid (fun (W : World) (h : DkAt (w.heap.size + 1) w.heap.size ka1 W) => load_any h kfit1 epochB (by decide))
  have K3 := Lib.hid (fun (W : World) (h : DkAt (w.heap.size + 1) w.heap.size ka1 W) => load_any h kfit1 otherB (by decide))
  unfold LoadSaid at K2 K3
  rw [ka_save] at K1
  rw [ka_load] at K2
  rw [ka_none] at K3
  unfold strV bs epochB otherB at *
  unfold ptrV at *
  simp only at K1 K2 K3
  go_enter Tryz.func6, Tryz.ntmps6
  go_wp2_with (fail)
  refine HN.out.mono ?_
  rintro e w1 ⟨rfl, hD, hB⟩
  have H1 : Hid (DkSt w (w.heap.size + 1) w.heap.size ka0 w1) := Lib.hid (DkSt.made w w (Nat.le_refl _) (Below.refl _ _) hD hB)
  clear hD hB HN
  go_wp2_with (fail)
  refine (K1.out _ H1.out.at_).mono ?_
  rintro e w2 hk
  obtain ⟨rfl, hS⟩ := H1.out.done hk
  have H2 : Hid (DkSt w (w.heap.size + 1) w.heap.size ka1 w2) := Lib.hid hS
  clear hk hS H1 K1
  go_wp2_with (fail)
  refine (K2.out _ H2.out.at_).mono ?_
  rintro e w3 ⟨rfl, hb⟩
  have H3 := Lib.hid (H2.out.grew hb)
  clear hb H2 K2
  go_wp2_with (fail)
  refine (K3.out _ H3.out.at_).mono ?_
  rintro e w4 ⟨rfl, hb⟩
  have H4 := Lib.hid (H3.out.grew hb)
  clear hb H3 K3
  go_wp2
  go_ret
  exact ⟨rfl, H4.out.bel⟩
end Go.Proofs.YtbaffabemomgjaaGreatDoor
