/- The plain law of ranges; the law IndexPlays. Conditions: as each theorem says. -/
import Derived.Test.YteoibolompiohaaIdxSg
namespace Go.Proofs.Yteoibolompiohaa
open Go.RowKit

theorem spotF_none (C : List Pr) : spotF C [] = 0 := by
  cases C with
  | nil => rfl
  | cons p C => rw [spotF_cons, kLt_nil]; rfl
theorem okTo_nil (p : Pr) : okTo [] p = true := rfl
theorem takeWhile_true {α : Type} (f : α → Bool) : ∀ (L : List α), (∀ x ∈ L, f x = true) → L.takeWhile f = L := fun L h => by
  have := takeWhile_all f L [] h
  rwa [List.append_nil, List.takeWhile_nil, List.append_nil] at this
theorem rng_all (C : List Pr) (most : Int) (h : (C.length : Int) < most) : rngL (C.drop (spotF C [])) [] most = C := by
  rw [spotF_none, List.drop_zero]
  unfold rngL
  rw [if_neg (by omega), takeWhile_true _ _ (fun p _ => okTo_nil p), List.take_of_length_le (by omega)]
theorem okTo_down {tk : Key} {a b : Pr} (h : kLt a.1 b.1 = true) (ha : okTo tk a = false) : okTo tk b = false := by
  unfold okTo at *
  rw [Bool.or_eq_false_iff] at *
  refine ⟨ha.1, ?_⟩
  cases e : kLt b.1 tk with
  | false => rfl
  | true => rw [kLt_trans h e] at ha; cases ha.2
theorem filter_while (tk : Key) : ∀ (L : List Pr), SortedK L → L.filter (okTo tk) = L.takeWhile (okTo tk) := by
  intro L
  induction L with
  | nil => intro _; rfl
  | cons a L ih =>
    intro h
    rw [SortedK.cons] at h
    cases e : okTo tk a with
    | true => rw [List.filter_cons_of_pos e, List.takeWhile_cons, e, ih h.2]; rfl
    | false =>
      rw [List.filter_cons_of_neg (by rw [e]; simp), List.takeWhile_cons, e]
      simp only [Bool.false_eq_true, if_false]
      exact List.filter_eq_nil_iff.2 fun b hb => by rw [okTo_down (h.1 b hb) e]; simp
theorem rng_ref {C : List Pr} (hs : SortedK C) (fr tk : Key) (most : Int) : rngL (C.drop (spotF C fr)) tk most = rngRef C fr tk most := by
  have hp := sorted_part hs fr
  have e : C.filter (inR fr tk) = (C.drop (spotF C fr)).takeWhile (okTo tk) := by
    conv => lhs; rw [← List.take_append_drop (spotF C fr) C]
    rw [List.filter_append, List.filter_eq_nil_iff.2 (fun p hp' => by unfold inR; rw [hp.1 p hp']; simp), List.nil_append]
    have hs2 : SortedK (C.drop (spotF C fr)) := List.Pairwise.sublist (List.drop_sublist _ _) hs
    rw [← filter_while tk _ hs2]
    refine List.filter_congr fun p hp' => ?_
    unfold inR
    rw [hp.2 p hp']; rfl
  unfold rngL rngRef
  rw [e]
  split
  · rw [show most.toNat = 0 by omega, List.take_zero]
  · rfl
def PlayAt (w : World) (g i : Nat) (C : List Pr) (v : Value) (wr : World) : Prop := ∃ m, m.g = g ∧ Tree w.heap.size i m C wr ∧ RefAt C v wr ∧ Below w.heap.size w wr
theorem PlayAt.step {w wr w' : World} {g i : Nat} {C' : List Pr} {v' : Value} {m m' : Mem} (hg : m.g = g) (hB : Below w.heap.size w wr) (T : Tree w.heap.size (i + 1) m' C' w') (hr : RefAt C' v' w') (u : Turned w.heap.size m m' wr w') : PlayAt w g (i + 1) C' v' w' :=
  ⟨m', u.g.trans hg, T, hr, hB.trans (u.below hB.size)⟩
set_option maxRecDepth 100000 in
set_option maxHeartbeats 2000000 in
theorem plays_law (L : List Opr) (a : Option Addr) (c : Nat) (w : World) (hL : L.length ≤ 9223372036854775807) (h : RowsAt 3 oprCells w (.slice a L.length c) L) :
    Calls Try.prog 3 #[.slice a L.length c] w fun e w' => e = .returned (.bool true) ∧ Below w.heap.size w w' := by
  have HO := Lib.hid h
  have HN := Lib.hid (new_any w)
  unfold NewSaid ptrV at HN
  obtain ⟨M, hM⟩ : ∃ M, M = min L.length 400 := ⟨_, rfl⟩
  have hM1 : M ≤ L.length := by omega
  have hM2 : M ≤ 400 := by omega
  have HM := Lib.hid hM
  clear h hM
  go_enter Try.func3, Try.ntmps3
  go_upto_region 2 with (go_at_call 10; (with_reducible refine HN.out.mono ?_); rintro e w1 ⟨m1, rfl, T1, b1⟩)
  have H1 : Hid (PlayAt w m1.g 0 [] (.slice none 0 0) w1) := Lib.hid ⟨m1, rfl, T1, Grow.nil _, b1⟩
  obtain ⟨g1, hg1⟩ : ∃ g1, g1 = m1.g := ⟨_, rfl⟩
  rw [← hg1] at H1 ⊢
  clear T1 b1 hg1 HN
  go_wp2
  go_loopg [4, 5] M (fun gk v4 v5 wr => ∃ (i : Nat) (va : Option Addr) (vc : Nat), v5 = .int .i64 (i : Int) ∧ v4 = .slice va (runC L i).length vc ∧ i + gk = M ∧ Hid (PlayAt w g1 i (runC L i) (.slice va (runC L i).length vc) wr))
  case atStart => exact ⟨0, none, 0, rfl, rfl, by omega, H1⟩
  case round =>
    obtain ⟨i, va, vc, rfl, rfl, hi, HA⟩ := hrel
    obtain ⟨m, rfl, T, hR, hB⟩ := HA.out
    by_cases hlt : i < M
    · have hiL : i < L.length := by omega
      obtain ⟨b, off, rfl, k0, k1, k2⟩ := ops_get HO.out i hiL
      have k0 := Grew.cell hB k0
      have k1 := Grew.cell hB k1
      have k2 := Grew.cell hB k2
      have hil : (i : Int) < (L.length : Int) := by omega
      have hi4 : (i : Int) < 400 := by omega
      have HP := Lib.hid (played_any T _ hR L[i] (by omega))
      have HRun := Lib.hid (runC_succ L i hiL)
      unfold PlayedGot oprV ptrV at HP
      generalize L[i] = o at *
      generalize runC L i = C at *
      have HB := Lib.hid hB
      clear hB T hR HA
      go_upto_region 7 with (go_at_call 11; (with_reducible refine HP.out.mono ?_); rintro e w2 ⟨m2, v2, rfl, T2, r2, u2⟩)
      obtain ⟨va2, vc2, hv2⟩ := r2.slice
      have HN2 : Hid (PlayAt w m.g (i + 1) (runC L (i + 1)) v2 w2) := Lib.hid (by rw [HRun.out]; exact PlayAt.step rfl HB.out T2 r2 u2)
      rw [← HRun.out] at hv2
      subst hv2
      clear T2 r2 u2 HP
      go_wp2
      go_roundg (gk - 1)
      case rel => exact ⟨i + 1, va2, vc2, by go_num, rfl, by omega, HN2⟩
      case measure => omega
    · obtain rfl : i = M := by omega
      have hor : L.length ≤ i ∨ i = 400 := by have := HM.out; omega
      have hl := T.len
      have HRg := Lib.hid (tree_range T [] [] (((runC L i).length : Int) + 1))
      rw [rng_all _ _ (by omega)] at HRg
      unfold RangeSaid ptrV at HRg
      have HRg : Hid (Calls Try.prog 13 #[.pointer (some ⟨m.g, 0, none⟩), .string ⟨#[]⟩, .string ⟨#[]⟩, .int .i64 (((runC L i).length : Int) + 1)] wr fun e w' => ∃ v, e = .returned v ∧ Grow PrT 2 prCells wr.heap.size v (runC L i) w' ∧ Below wr.heap.size wr w') := HRg
      have HR := Lib.hid hR
      have HB := Lib.hid hB
      have HAw := Lib.hid awake_any
      clear T hR hB HA
      generalize runC L i = C at *
      have hC : (C.length : Int) ≤ 400 := by omega
      have tailN : Hid (∀ (x : Prop), x → x) := Lib.hid (fun _ h => h)
      rcases hor with h0 | h0
      · have h1 : ¬ (i : Int) < (L.length : Int) := by omega
        clear h0
        go_upto_region 10 with (fail)
        go_wp2_with (first
          | (go_at_call 13; (with_reducible refine HRg.out.mono ?_); rintro e w3 ⟨v3, rfl, hG3, hb3⟩; obtain ⟨xa, xc, hv3⟩ := hG3.slice; have HS := Lib.hid (same_any C xa va xc vc (by omega) w3 (by rw [← hv3]; exact hG3.rows prCells_len) (show RefAt C _ w3 from Grow.below HR.out hb3)); subst hv3; clear hG3)
          | (go_at_call 12; (with_reducible refine HS.out.mono ?_); rintro e w4 ⟨rfl, hb4⟩)
          | (go_at_call 14; (with_reducible refine (HAw.out _).mono ?_); rintro e w5 ⟨rfl, hb5⟩))
        go_ret
        have B3 := HB.out.trans (hb3.mono HB.out.size)
        have B4 := B3.trans (hb4.mono B3.size)
        exact ⟨rfl, B4.trans (hb5.mono B4.size)⟩
      · subst h0
        have h1 : ¬ ((400 : Nat) : Int) < 400 := by omega
        go_upto_region 10 with (fail)
        all_goals
          go_wp2_with (first
            | (go_at_call 13; (with_reducible refine HRg.out.mono ?_); rintro e w3 ⟨v3, rfl, hG3, hb3⟩; obtain ⟨xa, xc, hv3⟩ := hG3.slice; have HS := Lib.hid (same_any C xa va xc vc (by omega) w3 (by rw [← hv3]; exact hG3.rows prCells_len) (show RefAt C _ w3 from Grow.below HR.out hb3)); subst hv3; clear hG3)
            | (go_at_call 12; (with_reducible refine HS.out.mono ?_); rintro e w4 ⟨rfl, hb4⟩)
            | (go_at_call 14; (with_reducible refine (HAw.out _).mono ?_); rintro e w5 ⟨rfl, hb5⟩))
          go_ret
          have B3 := HB.out.trans (hb3.mono HB.out.size)
          have B4 := B3.trans (hb4.mono B3.size)
          exact ⟨rfl, B4.trans (hb5.mono B4.size)⟩
end Go.Proofs.Yteoibolompiohaa
