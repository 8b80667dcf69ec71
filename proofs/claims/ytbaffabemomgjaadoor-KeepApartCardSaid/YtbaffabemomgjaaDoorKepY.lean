/- The walk of the law KeepApart. Conditions: as each theorem says. -/
import Derived.Test.YtbaffabemomgjaaDoorKepU
namespace Go.Proofs.YtbaffabemomgjaaDoor
open Go.RowKit

def triC (N : Nat → Bys) : List Value := [strV (N 0), strV (N 1), strV (N 2)]
theorem tri_cell {N : Nat → Bys} {g : Nat} {T : TypeId} {w : World} (h : BlkAt g T (triC N) w) (i : Nat) (hi : i < 3) : w.cell? ⟨g, i, none⟩ = some (strV (N i)) := by
  refine h.cell ?_
  match i, hi with
  | 0, _ => rfl
  | 1, _ => rfl
  | 2, _ => rfl
set_option maxRecDepth 100000 in
set_option maxHeartbeats 6400000 in
theorem apart_law (N X : Nat → Bys) (w : World) (hN : ∀ j, (N j).length ≤ maxLen) (hX : ∀ j, (X j).length ≤ maxLen) :
    Calls Tryd.prog 3 #[.agg (duoC N).toArray, .agg (triC X).toArray] w fun e w' => e = .returned (.bool true) ∧ Below w.heap.size w w' := by
  have HR0 := Lib.hid (fun W => right_any (N 0) (hN 0) W)
  have HR1 := Lib.hid (fun W => right_any (N 1) (hN 1) W)
  have HA := Lib.hid ((alloc_below w (.cells (duoC N).toArray 22)).trans ((alloc_below (w.alloc (.cells (duoC N).toArray 22)) (.cells (triC X).toArray 23)).mono (by simp)))
  have HBN := Lib.hid ((BlkAt.alloc_new w (duoC N) 22).grew (alloc_below (w.alloc (.cells (duoC N).toArray 22)) (.cells (triC X).toArray 23)))
  have HBX := Lib.hid (BlkAt.alloc_new (w.alloc (.cells (duoC N).toArray 22)) (triC X) 23)
  rw [show (w.alloc (.cells (duoC N).toArray 22)).heap.size = w.heap.size + 1 by simp] at HBX
  have n0 := duo_cell HBN.out 0 (by omega)
  have n1 := duo_cell HBN.out 1 (by omega)
  unfold maxLen at hN hX
  have HNl := Lib.hid hN
  have HXl := Lib.hid hX
  unfold strV at *
  clear hN hX
  by_cases good : rightN (N 0) = true ∧ rightN (N 1) = true ∧ N 0 ≠ N 1
  case neg =>
    cases hr0 : rightN (N 0) with
    | false =>
      as_aux_lemma =>
      rw [hr0] at HR0
      clear good hr0 HR1
      go_enter Tryd.func3, Tryd.ntmps3
      go_wp2_with (first
        | (go_at_call 7; refine (HR0.out _).mono ?_; rintro e w2 ⟨rfl, rfl⟩)
        | (go_at_call 8; refine (kawake_any _).mono ?_; rintro e w9 ⟨rfl, hb9⟩))
      go_ret
      exact ⟨rfl, HA.out.trans (hb9.mono HA.out.size)⟩
    | true =>
      rw [hr0] at HR0
      cases hr1 : rightN (N 1) with
      | false =>
        as_aux_lemma =>
        rw [hr1] at HR1
        clear good hr0 hr1
        go_enter Tryd.func3, Tryd.ntmps3
        go_wp2_with (first
          | (go_at_call 7; (with_reducible refine (HR0.out _).mono ?_); rintro e w2 ⟨rfl, rfl⟩)
          | (go_at_call 7; (with_reducible refine (HR1.out _).mono ?_); rintro e w2 ⟨rfl, rfl⟩)
          | (go_at_call 8; refine (kawake_any _).mono ?_; rintro e w9 ⟨rfl, hb9⟩))
        go_ret
        exact ⟨rfl, HA.out.trans (hb9.mono HA.out.size)⟩
      | true =>
        as_aux_lemma =>
        rw [hr1] at HR1
        have he : ((bs (N 0)).toList == (bs (N 1)).toList) = true := by
          have : N 0 = N 1 := Classical.byContradiction (fun q => good ⟨hr0, hr1, q⟩)
          rw [this]; exact beq_self_eq_true _
        clear good hr0 hr1
        go_enter Tryd.func3, Tryd.ntmps3
        go_wp2_with (first
          | (go_at_call 7; (with_reducible refine (HR0.out _).mono ?_); rintro e w2 ⟨rfl, rfl⟩)
          | (go_at_call 7; (with_reducible refine (HR1.out _).mono ?_); rintro e w2 ⟨rfl, rfl⟩)
          | (go_at_call 8; refine (kawake_any _).mono ?_; rintro e w9 ⟨rfl, hb9⟩))
        go_ret
        exact ⟨rfl, HA.out.trans (hb9.mono HA.out.size)⟩
  obtain ⟨hr0, hr1, hne⟩ := good
  rw [hr0] at HR0
  rw [hr1] at HR1
  have he : ((bs (N 0)).toList == (bs (N 1)).toList) = false := by
    rw [beq_eq_false_iff_ne, bs_toList, bs_toList]; exact hne
  have Hr := Lib.hid (And.intro hr0 (And.intro hr1 hne))
  clear hr0 hr1 hne
  go_enter Tryd.func3, Tryd.ntmps3
  go_wp2_with (fail)
  refine (HR0.out _).mono ?_
  rintro e w2 ⟨rfl, rfl⟩
  go_wp2_with (fail)
  refine (HR1.out _).mono ?_
  rintro e w2 ⟨rfl, rfl⟩
  go_wp2_with (fail)
  generalize (w.alloc (Obj.cells (duoC N).toArray 22)).alloc (Obj.cells (triC X).toArray 23) = w1 at *
  clear HR0 HR1
  go_loopw [5] (fun v5 wr => ∃ i : Nat, v5 = .int .i64 (i : Int) ∧ i ≤ 3 ∧ (∀ j, j < i → 1 ≤ (X j).length ∧ (X j).length ≤ 500) ∧ Below w1.heap.size w1 wr) (fun v5 _ => 3 - (intOf v5).toNat)
  case atStart => exact ⟨0, rfl, by omega, fun j hj => by omega, Below.refl _ _⟩
  case round =>
    obtain ⟨i, rfl, hi, hall, hB⟩ := hrel
    have HAll := Lib.hid hall
    have HB := Lib.hid hB
    clear hall hB n0 n1
    by_cases h : i < 3
    · have q0 : decide ((i : Int) < 3) = true := decide_eq_true (by omega)
      have x0 : wr.cell? ⟨w.heap.size + 1, i, none⟩ = some (.string (bs (X i))) := tri_cell (HBX.out.grew HB.out) i h
      have hz := bs_size (X i)
      have hXi := HXl.out i
      by_cases c1 : (X i).length < 1
      · as_aux_lemma =>
        have q1 : decide (((X i).length : Int) < 1) = true := decide_eq_true (by omega)
        clear c1
        go_wp2_with (go_at_call 8; refine (kawake_any _).mono ?_; rintro e w9 ⟨rfl, hb9⟩)
        go_ret
        exact ⟨rfl, HA.out.trans ((HB.out.trans (hb9.mono HB.out.size)).mono HA.out.size)⟩
      have q1 : decide (((X i).length : Int) < 1) = false := decide_eq_false (by omega)
      by_cases c2 : 500 < (X i).length
      · as_aux_lemma =>
        have q2 : decide (500 < ((X i).length : Int)) = true := decide_eq_true (by omega)
        clear c1 c2
        go_wp2_with (go_at_call 8; refine (kawake_any _).mono ?_; rintro e w9 ⟨rfl, hb9⟩)
        go_ret
        exact ⟨rfl, HA.out.trans ((HB.out.trans (hb9.mono HB.out.size)).mono HA.out.size)⟩
      · as_aux_lemma =>
        have q2 : decide (500 < ((X i).length : Int)) = false := decide_eq_false (by omega)
        have HAll2 := Lib.hid (show ∀ j, j < i + 1 → 1 ≤ (X j).length ∧ (X j).length ≤ 500 from fun j hj => by
          by_cases e : j = i
          · rw [e]; omega
          · exact HAll.out j (by omega))
        clear c1 c2
        go_wp2
        go_roundw
        case rel => exact ⟨i + 1, by go_num, by omega, HAll2.out, HB.out⟩
        case measure => simp [intOf]; omega
    · as_aux_lemma =>
      have q0 : decide ((i : Int) < 3) = false := decide_eq_false (by omega)
      have hl : ∀ j, j < 3 → 1 ≤ (X j).length ∧ (X j).length ≤ 500 := fun j hj => HAll.out j (by omega)
      obtain ⟨d1, d2, d3, T⟩ := apart_plain Hr.out.1 Hr.out.2.1 Hr.out.2.2 (hl 0 (by omega)).1 (hl 0 (by omega)).2 (hl 1 (by omega)).1 (hl 1 (by omega)).2 (hl 2 (by omega)).1 (hl 2 (by omega)).2
      have HK := Lib.hid (fun W => new_any 1048576 (by decide) (by decide) W)
      have K1 := Lib.hid (fun (g b : Nat) (W : World) (h : DkAt g b ⟨[], 1048576, 0, false⟩ W) => save_any h newL_fit (by decide) (N 0) (X 0) (HNl.out 0) (HXl.out 0))
      rw [T.e1] at K1
      have K2 := Lib.hid (fun (g b : Nat) (W : World) (h : DkAt g b d1 W) => save_any h T.f1 (by have := T.n1; omega) (N 1) (X 1) (HNl.out 1) (HXl.out 1))
      rw [T.e2] at K2
      have K3 := Lib.hid (fun (g b : Nat) (W : World) (h : DkAt g b d2 W) => save_any h T.f2 (by have := T.n2; omega) (N 0) (X 2) (HNl.out 0) (HXl.out 2))
      rw [T.e3] at K3
      have K4 := Lib.hid (fun (g b : Nat) (W : World) (h : DkAt g b d3 W) => load_any h T.f3 (N 0) (HNl.out 0))
      have K5 := Lib.hid (fun (g b : Nat) (W : World) (h : DkAt g b d3 W) => load_any h T.f3 (N 1) (HNl.out 1))
      unfold LoadSaid at K4 K5
      rw [T.e4] at K4
      rw [T.e5] at K5
      have K6 := Lib.hid (fun (g b : Nat) (W : World) (h : DkAt g b d3 W) => names_any h T.f3 (by have := T.n3; omega))
      have hlen := T.e6
      unfold strV ptrV at *
      simp only at K1 K2 K3 K4 K5
      have s1 : ((bs (X 1)).toList == (bs (X 1)).toList) = true := beq_self_eq_true _
      have s2 : ((bs (X 2)).toList == (bs (X 2)).toList) = true := beq_self_eq_true _
      clear T hl h HAll he
      go_wp2_with (fail)
      refine (HK.out _).mono ?_
      rintro e w3 ⟨rfl, hD, hB⟩
      have HS := Lib.hid (DkSt.made w1 wr HB.out.size HB.out hD hB)
      clear hD hB HK
      have n0 := duo_cell (HBN.out.grew HS.out.bel) 0 (by omega)
      have n1 := duo_cell (HBN.out.grew HS.out.bel) 1 (by omega)
      have x0 := tri_cell (HBX.out.grew HS.out.bel) 0 (by omega)
      have x1 := tri_cell (HBX.out.grew HS.out.bel) 1 (by omega)
      have x2 := tri_cell (HBX.out.grew HS.out.bel) 2 (by omega)
      unfold strV at n0 n1 x0 x1 x2
      go_wp2_with (fail)
      refine (K1.out _ _ _ HS.out.at_).mono ?_
      rintro e w4 hk
      obtain ⟨rfl, hS⟩ := HS.out.done hk
      have HS := Lib.hid hS
      clear hk hS K1 n0 n1 x0 x1 x2
      have n0 := duo_cell (HBN.out.grew HS.out.bel) 0 (by omega)
      have n1 := duo_cell (HBN.out.grew HS.out.bel) 1 (by omega)
      have x0 := tri_cell (HBX.out.grew HS.out.bel) 0 (by omega)
      have x1 := tri_cell (HBX.out.grew HS.out.bel) 1 (by omega)
      have x2 := tri_cell (HBX.out.grew HS.out.bel) 2 (by omega)
      unfold strV at n0 n1 x0 x1 x2
      go_wp2_with (fail)
      refine (K2.out _ _ _ HS.out.at_).mono ?_
      rintro e w5 hk
      obtain ⟨rfl, hS⟩ := HS.out.done hk
      have HS := Lib.hid hS
      clear hk hS K2 n0 n1 x0 x1 x2
      have n0 := duo_cell (HBN.out.grew HS.out.bel) 0 (by omega)
      have n1 := duo_cell (HBN.out.grew HS.out.bel) 1 (by omega)
      have x0 := tri_cell (HBX.out.grew HS.out.bel) 0 (by omega)
      have x1 := tri_cell (HBX.out.grew HS.out.bel) 1 (by omega)
      have x2 := tri_cell (HBX.out.grew HS.out.bel) 2 (by omega)
      unfold strV at n0 n1 x0 x1 x2
      go_wp2_with (fail)
      refine (K3.out _ _ _ HS.out.at_).mono ?_
      rintro e w6 hk
      obtain ⟨rfl, hS⟩ := HS.out.done hk
      have HS := Lib.hid hS
      clear hk hS K3 n0 n1 x0 x1 x2
      have n0 := duo_cell (HBN.out.grew HS.out.bel) 0 (by omega)
      have n1 := duo_cell (HBN.out.grew HS.out.bel) 1 (by omega)
      have x0 := tri_cell (HBX.out.grew HS.out.bel) 0 (by omega)
      have x1 := tri_cell (HBX.out.grew HS.out.bel) 1 (by omega)
      have x2 := tri_cell (HBX.out.grew HS.out.bel) 2 (by omega)
      unfold strV at n0 n1 x0 x1 x2
      go_wp2_with (fail)
      refine (K4.out _ _ _ HS.out.at_).mono ?_
      rintro e w7 ⟨rfl, hb⟩
      have HS := Lib.hid (HS.out.grew hb)
      clear hb K4
      have n0 := duo_cell (HBN.out.grew HS.out.bel) 0 (by omega)
      have n1 := duo_cell (HBN.out.grew HS.out.bel) 1 (by omega)
      have x0 := tri_cell (HBX.out.grew HS.out.bel) 0 (by omega)
      have x1 := tri_cell (HBX.out.grew HS.out.bel) 1 (by omega)
      have x2 := tri_cell (HBX.out.grew HS.out.bel) 2 (by omega)
      unfold strV at n0 n1 x0 x1 x2
      go_wp2_with (fail)
      refine (K5.out _ _ _ HS.out.at_).mono ?_
      rintro e w8 ⟨rfl, hb⟩
      have HS := Lib.hid (HS.out.grew hb)
      clear hb K5
      have n0 := duo_cell (HBN.out.grew HS.out.bel) 0 (by omega)
      have n1 := duo_cell (HBN.out.grew HS.out.bel) 1 (by omega)
      have x0 := tri_cell (HBX.out.grew HS.out.bel) 0 (by omega)
      have x1 := tri_cell (HBX.out.grew HS.out.bel) 1 (by omega)
      have x2 := tri_cell (HBX.out.grew HS.out.bel) 2 (by omega)
      unfold strV at n0 n1 x0 x1 x2
      go_wp2_with (fail)
      refine (K6.out _ _ _ HS.out.at_).mono ?_
      rintro e w9 ⟨v, rfl, hG, hb⟩
      have HS := Lib.hid (HS.out.grew hb)
      obtain ⟨na, nc, hv⟩ := hG.slice
      subst hv
      rw [hlen]
      clear hG hb K6 hlen
      go_wp2_with (go_at_call 8; refine (kawake_any _).mono ?_; rintro e w15 ⟨rfl, hb9⟩)
      go_ret
      exact ⟨rfl, HA.out.trans ((HS.out.grew hb9).bel.mono HA.out.size)⟩
abbrev TriT : TypeId := 23
theorem ctri : Tryd.prog.cellsOf TriT = 3 := by kernel_rfl
def IsTri (v : Value) : Prop := ∃ N : Nat → Bys, v = .agg (triC N).toArray ∧ ∀ j, (N j).length ≤ maxLen
def tri3 (a b c : Bys) : Nat → Bys := fun i => if i = 0 then a else if i = 1 then b else if i = 2 then c else []
set_option maxRecDepth 100000 in
open Go.WideShapes Go.ChangeShapes in
theorem open_tri {H : Type} {enc : TypeId × Value → H} {w : World} {r : Reach} {base : Nat} {v : Value} {d : DataW H} {p : List MemPlace}
    (hv : Value.okWide Tryd.prog w r base 23 v) (h : DataW.Trod enc Tryd.prog w 0 (fun _ => true) true 23 v d p) : IsTri v := by
  have hv2 : ∃ cs, v = .agg cs ∧ cs.size = Tryd.prog.cellsOf TriT := by
    simp only [Value.okWide, Tryd.underlying23] at hv
    obtain ⟨cs, h1, h2, _⟩ := hv
    exact ⟨cs, h1, h2⟩
  obtain ⟨cs, rfl, hsz⟩ := hv2
  obtain ⟨fuel, hf⟩ := h
  have hf2 : DataW.trod enc Tryd.prog w 0 (fun _ => true) true fuel TriT cs.toList = some (d, p) := by simpa [Value.cells] using hf
  obtain ⟨xs, m, _, _, hl, hlen, hg⟩ := DataW.trod_array Tryd.underlying23 hf2
  rw [ctri] at hl
  obtain ⟨cl⟩ := cs
  match cl, hl, xs, hlen with
  | [c0, c1, c2], _, [y0, y1, y2], _ =>
    have h0 := hg 0 (by omega)
    have h1 := hg 1 (by omega)
    have h2 := hg 2 (by omega)
    rw [cdt] at h0 h1 h2
    obtain ⟨a, e0, _, l0⟩ := DataW.trod_string Tryd.underlying9 (by simpa using h0)
    obtain ⟨b, e1, _, l1⟩ := DataW.trod_string Tryd.underlying9 (by simpa using h1)
    obtain ⟨c, e2, _, l2⟩ := DataW.trod_string Tryd.underlying9 (by simpa using h2)
    simp at e0 e1 e2
    subst e0 e1 e2
    refine ⟨tri3 a.data.toList b.data.toList c.data.toList, ?_, fun j => ?_⟩
    · simp [triC, tri3, strV, bs_of]
    · unfold tri3
      split
      · simpa using l0
      split
      · simpa using l1
      split
      · simpa using l2
      · simp
/-- THE LAW KeepApart. -/
theorem keepApart_walk (W : World) (v0 v1 : Value) (h0 : IsDuo v0) (h1 : IsTri v1) :
    Calls Tryd.prog 3 #[v0, v1] W fun e w' => e = .returned (.bool true) ∧ Below W.heap.size W w' := by
  obtain ⟨N, rfl, hN⟩ := h0
  obtain ⟨X, rfl, hX⟩ := h1
  exact apart_law N X W hN hX
end Go.Proofs.YtbaffabemomgjaaDoor
