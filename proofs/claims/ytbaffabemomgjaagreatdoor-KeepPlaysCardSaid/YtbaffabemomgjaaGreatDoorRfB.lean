/- The reference's disk: the walks of put and drop. Conditions: as each theorem says. -/
import Derived.Test.YtbaffabemomgjaaGreatDoorRfA
namespace Go.Proofs.YtbaffabemomgjaaGreatDoor
open Go.RowKit

theorem less_before : ∀ (a b : Bys), Op.bytesLess a b = bytesBefore a b := by
  intro a
  induction a with
  | nil => intro b; cases b <;> rfl
  | cons x r ih =>
    intro b
    cases b with
    | nil => rfl
    | cons y s =>
      rw [bytesBefore, Op.bytesLess, ih]
set_option maxRecDepth 100000 in
def putRest (k : Bys) (f : Fil) : Bool → Dir → Dir
  | q, [] => if q then [] else [(k, f)]
  | q, y :: r => (if !q && !bytesBefore y.1 k then [(k, f)] else []) ++ ((if y.1 ≠ k then [y] else []) ++ putRest k f (q || !bytesBefore y.1 k) r)
theorem putRest_cons (k : Bys) (f : Fil) (q : Bool) (y : Bys × Fil) (r : Dir) : putRest k f q (y :: r) = (if !q && !bytesBefore y.1 k then [(k, f)] else []) ++ ((if y.1 ≠ k then [y] else []) ++ putRest k f (q || !bytesBefore y.1 k) r) := rfl
theorem del_cons (y : Bys × Fil) (r : Dir) (k : Bys) : delM (y :: r) k = (if y.1 ≠ k then [y] else []) ++ delM r k := by
  unfold delM
  rw [List.filter_cons]
  by_cases h : y.1 = k
  · simp [h]
  · simp [h]
theorem putRest_true (k : Bys) (f : Fil) : ∀ M : Dir, putRest k f true M = delM M k := by
  intro M
  induction M with
  | nil => rfl
  | cons y r ih => rw [putRest_cons, del_cons, Bool.true_or, ih]; rfl
theorem putRest_put (k : Bys) (f : Fil) : ∀ {M : Dir}, M.sorted → putRest k f false M = putM M k f := by
  intro M
  induction M with
  | nil => intro _; rfl
  | cons y r ih =>
    intro hs
    have hs' := hs
    unfold Dir.sorted at hs'
    obtain ⟨h1, h2⟩ := List.pairwise_cons.1 hs'
    rw [putRest_cons]
    unfold putM
    rw [del_cons]
    cases hb : bytesBefore y.1 k with
    | true =>
      have hne : y.1 ≠ k := before_ne hb
      have := ih h2
      unfold putM at this
      rw [if_pos hne]
      simp only [Bool.not_true, Bool.and_false, Bool.or_false, Bool.false_eq_true, if_false, List.nil_append, List.cons_append, this]
      rw [insM, if_neg (by rw [before_asymm hb]; decide)]
    | false =>
      simp only [Bool.not_false, Bool.and_true, Bool.or_true, if_true, putRest_true]
      by_cases hne : y.1 = k
      · have hr : delM r k = r := del_none (fun p hp e => before_ne (h1 p hp) (by rw [hne, e]))
        rw [if_neg (by simp [hne]), hr]
        cases r with
        | nil => rfl
        | cons z t =>
          have hz := h1 z (by simp)
          rw [hne] at hz
          show (k, f) :: z :: t = insM (k, f) (z :: t)
          rw [insM, if_pos hz]
      · rw [if_pos hne]
        have hz : bytesBefore k y.1 = true := by
          rcases Go.WideAt.bytes_total _ _ hne with h3 | h3
          · rw [hb] at h3; cases h3
          · exact h3
        show (k, f) :: y :: delM r k = insM (k, f) (y :: delM r k)
        rw [insM, if_pos hz]
section
variable {base g : Nat} {d : Dk} {w : World}
theorem RdIn.storedN {a : Option Addr} {cap : Nat} {W : World} {M : Dir} {a2 : Option Addr} {c2 : Nat} {b2 : Nat} (h : RdIn base g d a cap W) (hG : GrowF b2 (.slice a2 M.length c2) M W) (hb : g < b2) :
    RdNew b2 g { d with m := M } (W.setCell ⟨g, 0, none⟩ (.slice a2 M.length c2)) :=
  ⟨a2, c2, h.blk.set 0 (.slice a2 M.length c2), hG.past hb 0 _⟩
theorem RdIn.stored {a : Option Addr} {cap : Nat} {W : World} {M : Dir} {a2 : Option Addr} {c2 : Nat} {b2 : Nat} (h : RdIn base g d a cap W) (hG : GrowF b2 (.slice a2 M.length c2) M W) (hb : g < b2) (hle : base ≤ b2) :
    RdAt base g { d with m := M } (W.setCell ⟨g, 0, none⟩ (.slice a2 M.length c2)) :=
  ⟨a2, c2, h.blk.set 0 (.slice a2 M.length c2), (hG.past hb 0 _).mono hle, h.le⟩
set_option maxRecDepth 100000 in
set_option maxHeartbeats 3200000 in
theorem rdrop_any (h : RdAt base g d w) (hn : d.m.length < 900000) (k : Bys) :
    Calls Tryz.prog 54 #[ptrV g, strV k] w fun e w' => e = .returned (.tuple #[]) ∧ RdNew w.heap.size g { d with m := delM d.m k } w' ∧ Apart (Just g) w w' := by
  obtain ⟨a, cap, h⟩ := h
  have H := Lib.hid h
  have hgl := h.blk.lt
  have hbg := h.le
  clear h
  unfold ptrV strV
  go_enter Tryz.func54, Tryz.ntmps54
  go_wp2_with (fail)
  go_loopw [4, 5] (fun v4 v5 W => ∃ (i : Nat) (v : Value) (O : Dir), v5 = .int .i64 (i : Int) ∧ v4 = v ∧ i ≤ d.m.length ∧ delM d.m k = O ++ delM (d.m.drop i) k ∧ O.length ≤ i ∧ GrowF w.heap.size v O W ∧ Below w.heap.size w W) (fun _ v5 _ => d.m.length - (intOf v5).toNat)
  case atStart => exact ⟨0, _, [], rfl, rfl, by omega, rfl, Nat.le_refl _, Grow.nil _, Below.refl _ _⟩
  case round =>
    obtain ⟨i, v, O, rfl, rfl, hi, hM, hO, hG, hB⟩ := hrel
    have HB := Lib.hid hB
    have hsz := hB.size
    have H' := Lib.hid (H.out.grew hB)
    have c0 := H'.out.blk.cell (i := 0) rfl
    clear hB
    by_cases hlt : i < d.m.length
    · have q0 : decide (i < d.m.length) = true := decide_eq_true hlt
      obtain ⟨gb, rfl, _, r0, r1, r2⟩ := H'.out.get i hlt
      have HH := Lib.hid H.out
      rw [List.drop_eq_getElem_cons hlt, del_cons] at hM
      generalize hx : d.m[i] = x at *
      clear hx
      by_cases he : x.1 = k
      · as_aux_lemma =>
        have q1 : ((bs x.1).toList == (bs k).toList) = true := by rw [he]; exact beq_self_eq_true _
        rw [if_neg (by simp [he]), List.nil_append] at hM
        have HM := Lib.hid hM
        have HG := Lib.hid hG
        clear hM hG he H H'
        go_wp2
        go_roundw
        case rel => exact ⟨i + 1, _, O, by go_num, rfl, by omega, HM.out, by omega, HG.out, HB.out⟩
        case measure => simp [intOf]; omega
      · as_aux_lemma =>
        have q1 : ((bs x.1).toList == (bs k).toList) = false := by rw [beq_eq_false_iff_ne, bs_toList, bs_toList]; exact he
        rw [if_pos he, ← List.append_assoc] at hM
        have HM := Lib.hid hM
        clear hM he H H'
        go_wp2_with (at_builtin; refine wpList_append_grow rfl _ _ _ rfl Tryz.underlying52 _ _ infoRf rfl (by decide) rfl hG hsz x _ rfl rfl (rf_one x) rfl (by unfold maxLen; omega) (by omega) ?_; intro v' w2 hG2 hg2; obtain ⟨a2, c2, rfl⟩ := hG2.slice; have hGa := hG.below (alloc_below wr (.cells #[.string (bs x.1), .string (bs x.2.d), .int .i64 x.2.s] RfT)); have HB2 := Lib.hid (hGa.since hg2 (HB.out.alloc hsz (.cells #[.string (bs x.1), .string (bs x.2.d), .int .i64 x.2.s] RfT)) (Nat.le_refl _)); have HG2 := Lib.hid hG2; clear hG2 hg2 hG hGa)
        go_roundw
        case rel => exact ⟨i + 1, _, O ++ [x], by go_num, rfl, by omega, HM.out, by simp; omega, (by have := HG2.out; rw [List.length_append] at this; exact this), HB2.out⟩
        case measure => simp [intOf]; omega
    · as_aux_lemma =>
      have q0 : decide (i < d.m.length) = false := decide_eq_false hlt
      rw [List.drop_eq_nil_of_le (by omega), show delM [] k = [] from rfl, List.append_nil] at hM
      have fg := H'.out.blk.frozen 0
      obtain ⟨a2, c2, rfl⟩ := hG.slice
      have HD := Lib.hid (H'.out.storedN hG (by omega))
      have HA := Lib.hid (just_set (g := g) HB.out 0 (.slice a2 O.length c2))
      have HM := Lib.hid hM
      clear hM hG H H'
      go_wp2
      go_end0
      rw [HM.out]
      exact ⟨rfl, HD.out, HA.out⟩
end
end Go.Proofs.YtbaffabemomgjaaGreatDoor
