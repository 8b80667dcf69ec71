/- The walks of the disk laws' awake and of DiskNil. Conditions: as each theorem says. -/
import Derived.Test.YtbaffabemomgjaaDskF
namespace Go.Proofs.Ytbaffabemomgjaa
open Go.RowKit

/-- A disk that a call has made for itself. -/
structure DkSt (w0 : World) (g b : Nat) (d : Dk) (W : World) : Prop where
  at_ : DkAt g b d W
  bel : Below w0.heap.size w0 W
  gN : w0.heap.size ≤ g
  bN : w0.heap.size ≤ b
section
variable {w0 : World} {g b : Nat} {d d' : Dk} {W W' : World} {e : Ending} {r : Int}
theorem DkSt.grew (h : DkSt w0 g b d W) (hb : Below W.heap.size W W') : DkSt w0 g b d W' := ⟨h.at_.grew hb, h.bel.trans (hb.mono h.bel.size), h.gN, h.bN⟩
theorem DkSt.apart (h : DkSt w0 g b d W) (hd : DkAt g b d' W') (hA : Apart (DkF g b) W W') : DkSt w0 g b d' W' :=
  ⟨hd, h.bel.trans (hA.below h.bel.size (fun i hi => by rcases hi with e | e; rw [e]; exact h.gN; rw [e]; exact h.bN)), h.gN, h.bN⟩
theorem DkSt.done (h : DkSt w0 g b d W) (k : DkDone g b d' r W e W') : e = .returned (.int .i64 r) ∧ DkSt w0 g b d' W' := ⟨k.1, h.apart k.2.1 k.2.2⟩
theorem DkSt.own (h : DkSt w0 g b d W) (hd : DkAt g b d' W') (hg : W.grownBy W' (some g)) : DkSt w0 g b d' W' :=
  h.apart hd (Apart.of_grown hg (fun k hk => .inl (.inl (Option.some.inj hk).symm)))
theorem DkSt.made (w : World) (hd : DkAt (w.heap.size + 1) w.heap.size d W) (hb : Below w.heap.size w W) : DkSt w (w.heap.size + 1) w.heap.size d W := ⟨hd, hb, by omega, Nat.le_refl _⟩
end
def aw0 : Dk := newD 99
def aw1 : Dk := (appendD aw0 [97] [49, 50]).1
def aw2 : Dk := (syncD aw1 [97]).1
def aw3 : Dk := (appendD aw2 [97] [51, 52, 53]).1
def aw4 : Dk := crashD aw3 [2]
def aw5 : Dk := (armD aw4 1).1
def aw6 : Dk := (appendD aw5 [97] [120]).1
def aw7 : Dk := crashD aw6 [0]
theorem fit0 : aw0.fit := newD_fit 99 (by decide) (by decide)
theorem fit1 : aw1.fit := append_fit fit0 _ _
theorem fit2 : aw2.fit := sync_fit fit1 _
theorem fit3 : aw3.fit := append_fit fit2 _ _
theorem fit4 : aw4.fit := crash_fit fit3 _
theorem fit5 : aw5.fit := arm_fit fit4 _ (by decide)
theorem fit6 : aw6.fit := append_fit fit5 _ _
theorem fit7 : aw7.fit := crash_fit fit6 _
theorem one_keep (x : Int) (w : World) (T : TypeId) : RowsAt 1 intCells (w.alloc (.cells #[.int .i64 x] T)) (.slice (some ⟨w.heap.size, 0, none⟩) [x].length 1) [x] := by
  refine ⟨_, 1, rfl, fun i hi => ⟨_, 0, rfl, ?_⟩⟩
  have h0 : i = 0 := by simpa using hi
  subst h0
  exact BlkAt.range (BlkAt.alloc_new w [.int .i64 x] T) _ _ (fun j hj => by simp [intCells])
theorem keeps_none (w : World) : RowsAt 1 intCells w (.slice none ([] : List Int).length 0) [] := ⟨none, 0, rfl, fun i hi => by simp at hi⟩
set_option maxRecDepth 100000 in
set_option maxHeartbeats 1600000 in
theorem dawake_any (w : World) : Calls Try.prog 7 #[] w fun e w' => e = .returned (.bool true) ∧ Below w.heap.size w w' := by
  have HN := Lib.hid (new_any 99 (by decide) (by decide) w)
  have r1 : readD aw4 [97] = ([49, 50, 51, 52], 0) := by kernel_rfl
  have r2 : (appendD aw5 [97] [120]).2 = 20 := by kernel_rfl
  have r3 : readD aw7 [97] = ([49, 50, 51, 52], 0) := by kernel_rfl
  have K1 := Lib.hid (fun (W : World) (h : DkAt (w.heap.size + 1) w.heap.size aw0 W) => append_any h fit0 (by decide) [97] [49, 50] (by decide) (by decide))
  have K2 := Lib.hid (fun (W : World) (h : DkAt (w.heap.size + 1) w.heap.size aw1 W) => sync_any h fit1 (by decide +kernel) [97] (by decide))
  have K3 := Lib.hid (fun (W : World) (h : DkAt (w.heap.size + 1) w.heap.size aw2 W) => append_any h fit2 (by decide +kernel) [97] [51, 52, 53] (by decide) (by decide))
  have K4 := Lib.hid (fun (W : World) (h : DkAt (w.heap.size + 1) w.heap.size aw3 W) (a : Option Addr) (hr : RowsAt 1 intCells W (.slice a [(2 : Int)].length 1) [2]) => crash_any h fit3 (by decide +kernel) [2] a 1 hr (by decide) (by decide))
  have K5 := Lib.hid (fun (W : World) (h : DkAt (w.heap.size + 1) w.heap.size aw4 W) => read_any h [97] (by decide))
  have K6 := Lib.hid (fun (W : World) (h : DkAt (w.heap.size + 1) w.heap.size aw4 W) => arm_any h 1)
  have K7 := Lib.hid (fun (W : World) (h : DkAt (w.heap.size + 1) w.heap.size aw5 W) => append_any h fit5 (by decide +kernel) [97] [120] (by decide) (by decide))
  have K8 := Lib.hid (fun (W : World) (h : DkAt (w.heap.size + 1) w.heap.size aw6 W) (a : Option Addr) (hr : RowsAt 1 intCells W (.slice a [(0 : Int)].length 1) [0]) => crash_any h fit6 (by decide +kernel) [0] a 1 hr (by decide) (by decide))
  have K9 := Lib.hid (fun (W : World) (h : DkAt (w.heap.size + 1) w.heap.size aw7 W) => read_any h [97] (by decide))
  rw [r1] at K5
  rw [r2] at K7
  rw [r3] at K9
  have HO := Lib.hid (fun (x : Int) (W : World) => one_keep x W 3)
  simp only [List.length_cons, List.length_nil, Nat.zero_add] at K4 K8 HO
  clear r1 r2 r3
  unfold strV bs at *
  unfold ptrV at *
  simp only at K5 K9
  go_enter Try.func7, Try.ntmps7
  go_wp2_with (fail)
  refine HN.out.mono ?_
  rintro e w1 ⟨rfl, hD, hB⟩
  have H1 : Hid (DkSt w (w.heap.size + 1) w.heap.size aw0 w1) := Lib.hid (DkSt.made w hD hB)
  clear hD hB HN
  go_wp2_with (fail)
  refine (K1.out _ H1.out.at_).mono ?_
  rintro e w2 hk
  obtain ⟨rfl, hS⟩ := H1.out.done hk
  have H2 : Hid (DkSt w (w.heap.size + 1) w.heap.size aw1 w2) := Lib.hid hS
  clear hk hS H1 K1
  go_wp2_with (fail)
  refine (K2.out _ H2.out.at_).mono ?_
  rintro e w3 hk
  obtain ⟨rfl, hS⟩ := H2.out.done hk
  have H3 : Hid (DkSt w (w.heap.size + 1) w.heap.size aw2 w3) := Lib.hid hS
  clear hk hS H2 K2
  go_wp2_with (fail)
  refine (K3.out _ H3.out.at_).mono ?_
  rintro e w4 hk
  obtain ⟨rfl, hS⟩ := H3.out.done hk
  have H4 : Hid (DkSt w (w.heap.size + 1) w.heap.size aw3 w4) := Lib.hid hS
  clear hk hS H3 K3
  go_wp2_with (fail)
  have H4a := Lib.hid (H4.out.grew (alloc_below w4 (.cells #[.int .i64 2] 3)))
  refine (K4.out _ H4a.out.at_ _ (HO.out 2 w4)).mono ?_
  rintro e w5 hk
  obtain ⟨rfl, hS⟩ := H4a.out.done hk
  have H5 : Hid (DkSt w (w.heap.size + 1) w.heap.size aw4 w5) := Lib.hid hS
  clear hk hS H4 H4a K4
  go_wp2_with (fail)
  refine (K5.out _ H5.out.at_).mono ?_
  rintro e w6 ⟨rfl, hb⟩
  have H6 := Lib.hid (H5.out.grew hb)
  clear hb H5 K5
  go_wp2_with (fail)
  refine (K6.out _ H6.out.at_).mono ?_
  rintro e w7 ⟨rfl, hd, hg⟩
  have H7 : Hid (DkSt w (w.heap.size + 1) w.heap.size aw5 w7) := Lib.hid (H6.out.own hd hg)
  clear hd hg H6 K6
  go_wp2_with (fail)
  refine (K7.out _ H7.out.at_).mono ?_
  rintro e w8 hk
  obtain ⟨rfl, hS⟩ := H7.out.done hk
  have H8 : Hid (DkSt w (w.heap.size + 1) w.heap.size aw6 w8) := Lib.hid hS
  clear hk hS H7 K7
  go_wp2_with (fail)
  have H8a := Lib.hid (H8.out.grew (alloc_below w8 (.cells #[.int .i64 0] 3)))
  refine (K8.out _ H8a.out.at_ _ (HO.out 0 w8)).mono ?_
  rintro e w9 hk
  obtain ⟨rfl, hS⟩ := H8a.out.done hk
  have H9 : Hid (DkSt w (w.heap.size + 1) w.heap.size aw7 w9) := Lib.hid hS
  clear hk hS H8 H8a K8
  go_wp2_with (fail)
  refine (K9.out _ H9.out.at_).mono ?_
  rintro e w10 ⟨rfl, hb⟩
  have H10 := Lib.hid (H9.out.grew hb)
  clear hb H9 K9
  go_wp2
  go_ret
  exact ⟨rfl, H10.out.bel⟩
set_option maxRecDepth 100000 in
set_option maxHeartbeats 1600000 in
theorem nil_any (k : Bys) (n : Int) (w : World) : Calls Try.prog 4 #[strV k, .int .i64 n] w fun e w' => e = .returned (.bool true) ∧ Below w.heap.size w w' := by
  have K1 := Lib.hid (fun W => read_nil k W)
  have K2 := Lib.hid (fun W => append_nil k k W)
  have K3 := Lib.hid (fun W => sync_nil k W)
  have K4 := Lib.hid (fun W => rename_nil k k W)
  have K5 := Lib.hid (fun W => trunc_nil k n W)
  have K6 := Lib.hid (fun W => remove_nil k W)
  unfold strV at *
  go_enter Try.func4, Try.ntmps4
  go_wp2_with (first
    | (go_at_call 12; refine (K1.out _).mono ?_; rintro e w' ⟨rfl, rfl⟩)
    | (go_at_call 8; refine (K2.out _).mono ?_; rintro e w' ⟨rfl, rfl⟩)
    | (go_at_call 9; refine (K3.out _).mono ?_; rintro e w' ⟨rfl, rfl⟩)
    | (go_at_call 10; refine (K4.out _).mono ?_; rintro e w' ⟨rfl, rfl⟩)
    | (go_at_call 15; refine (K5.out _).mono ?_; rintro e w' ⟨rfl, rfl⟩)
    | (go_at_call 16; refine (K6.out _).mono ?_; rintro e w' ⟨rfl, rfl⟩)
    | (go_at_call 13; refine (names_nil _).mono ?_; rintro e w' ⟨rfl, rfl⟩)
    | (go_at_call 14; refine (used_nil _).mono ?_; rintro e w' ⟨rfl, rfl⟩)
    | (go_at_call 17; refine (arm_nil _ _).mono ?_; rintro e w' ⟨rfl, rfl⟩)
    | (go_at_call 11; refine (crash_nil _ _).mono ?_; rintro e w' ⟨rfl, rfl⟩)
    | (go_at_call 7; refine (dawake_any _).mono ?_; rintro e w9 ⟨rfl, hb9⟩))
  go_ret
  exact ⟨rfl, (alloc_below w _).trans (hb9.mono (by simp))⟩
/-- THE LAW DiskNil. -/
theorem diskNil_walk (W : World) (a0 : ByteArray) (a1 : Int) (h0 : a0.size ≤ maxLen) (w1 : (Lit.int .i64 a1).wf = true) :
    Calls Try.prog 4 #[.string a0, .int .i64 a1] W fun e w' => e = .returned (.bool true) ∧ Below W.heap.size W w' := by
  have := nil_any a0.data.toList a1 W
  unfold strV at this
  rw [bs_of] at this
  exact this
end Go.Proofs.Ytbaffabemomgjaa
