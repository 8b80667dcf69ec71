/- The walks of the reference's taker: well, flag, many, rang, ops. Printed by gen/genTalU.py. Conditions: as each theorem says. -/
import Derived.Test.YtlcblkmmkphpmaaPackG
import Derived.Test.YtlcblkmmkphpmaaTalE
namespace Go.Proofs.Ytlcblkmmkphpmaa
open Go.RowKit

abbrev RfRd : TypeId := 71
abbrev TkT : TypeId := 73
/-- The taker at t, over the reference's reader at q. -/
structure Tq (t q : Nat) (r : Rd) (w : World) : Prop where
  ok : r.ok
  t : BlkAt t TkT [.pointer (some ⟨q, 0, none⟩)] w
  r : RdAt RfRd q r w
theorem Tq.lt {t q : Nat} {r : Rd} {w : World} (h : Tq t q r w) : t < w.heap.size ∧ q < w.heap.size := ⟨h.t.lt, (rd_blk h.r).lt⟩
theorem Tq.c0 {t q : Nat} {r : Rd} {w : World} (h : Tq t q r w) : w.cell? ⟨t, 0, none⟩ = some (.pointer (some ⟨q, 0, none⟩)) := BlkAt.cell h.t rfl
theorem Tq.row {t q : Nat} {r : Rd} {a b : World} {k : Option Nat} (h : Tq t q r a) (g : a.grownBy b k) (hv : some t ≠ k) (hq : some q ≠ k) : Tq t q r b := ⟨h.ok, h.t.grown g hv, BlkAt.grown (rd_blk h.r) g hq⟩
theorem Tq.grew {t q : Nat} {r : Rd} {a b : World} (h : Tq t q r a) (g : Below a.heap.size a b) : Tq t q r b := ⟨h.ok, h.t.grew g, BlkAt.grew (rd_blk h.r) g⟩
theorem Tq.drew {t q : Nat} {r : Rd} {w : World} (h : Tq t q r w) : Tq t q r w.drew := ⟨h.ok, h.t, h.r⟩
theorem rnum_at (t q : Nat) (htq : t ≠ q) (r : Rd) (hl : Bd r) {n : Int} {r1 : Rd} (hn : numR r = (n, r1)) (w : World) (h : Tq t q r w) :
    Calls Try.prog 32 #[.pointer (some ⟨q, 0, none⟩)] w fun e w' => e = .returned (.int .i64 n) ∧ Tq t q r1 w' ∧ Gr2 q q w w' := by
  have ho := numR_ok3 r h.ok
  have := refNum_any q r w h.r hl
  rw [hn] at this ho
  exact this.mono fun e w' ⟨h1, h2, h3⟩ => ⟨h1, ⟨ho, h.t.grown h3 (fun e => htq (Option.some.inj e)), h2⟩, Gr2.of_q h3⟩
theorem rtext_at (t q : Nat) (htq : t ≠ q) (r : Rd) (hl : Bd r) {n : Byt} {r1 : Rd} (hn : textR r = (n, r1)) (w : World) (h : Tq t q r w) :
    Calls Try.prog 59 #[.pointer (some ⟨q, 0, none⟩)] w fun e w' => e = .returned (.string (bs n)) ∧ Tq t q r1 w' ∧ Gr2 q q w w' := by
  have ho := textR_ok3 r h.ok
  have := refText_any q r w h.r hl
  rw [hn] at this ho
  exact this.mono fun e w' ⟨h1, h2, h3⟩ => ⟨h1, ⟨ho, h.t.grown h3 (fun e => htq (Option.some.inj e)), h2⟩, Gr2.of_q h3⟩
set_option maxRecDepth 100000 in
theorem rwell_any (t q : Nat) (r : Rd) (w : World) (h : Tq t q r w) :
    Calls Try.prog 58 #[.pointer (some ⟨t, 0, none⟩)] w fun e w' => e = .returned (.bool (decide (r.e = 0))) ∧ w' = w := by
  have c0 := h.c0
  have c1 := h.r.c1
  have hok := h.ok
  clear h
  by_cases he : r.e = 0
  · as_aux_lemma =>
    rw [decide_eq_true he]
    rw [he] at c1
    go_enter Try.func58, Try.ntmps58
    go_wp2_with (fail)
    go_ret
    exact ⟨rfl, rfl⟩
  · as_aux_lemma =>
    rw [decide_eq_false he]
    have hz := (e_cast hok he).1
    go_enter Try.func58, Try.ntmps58
    go_wp2_with (fail)
    go_ret
    exact ⟨rfl, rfl⟩
theorem Tq.set11 {t q : Nat} {r : Rd} {w : World} (h : Tq t q r w) (htq : t ≠ q) : Tq t q ⟨r.l, 11⟩ (w.setCell ⟨q, 1, none⟩ (.int .i64 11)) ∧ Gr2 q q w (w.setCell ⟨q, 1, none⟩ (.int .i64 11)) :=
  ⟨⟨.inr (.inr rfl), h.t.grown (grown_set w q 1 _) (fun e => htq (Option.some.inj e)), h.r.set1 11⟩, Gr2.of_q (grown_set w q 1 _)⟩
set_option maxRecDepth 100000 in
set_option maxHeartbeats 1000000 in
theorem rflag_any (t q : Nat) (htq : t ≠ q) (r : Rd) (hl : Bd r) (w : World) (h : Tq t q r w) :
    Calls Try.prog 33 #[.pointer (some ⟨t, 0, none⟩)] w fun e w' => e = .returned (.bool (flagR r).1) ∧ Tq t q (flagR r).2 w' ∧ Gr2 q q w w' := by
  have c0 := h.c0
  obtain ⟨n, r1, hn⟩ : ∃ a s, numR r = (a, s) := ⟨_, _, rfl⟩
  have HN := Lib.hid (rnum_at t q htq r hl hn w h)
  rw [flagR_is, hn]
  simp only
  clear h hn
  have HS := Lib.hid (fun X (hX : Tq t q r1 X) => hX.set11 htq)
  by_cases he : r1.e = 0
  · have HWL : Hid (∀ X, Tq t q r1 X → Calls Try.prog 58 #[.pointer (some ⟨t, 0, none⟩)] X fun e w' => e = .returned (.bool true) ∧ w' = X) := Lib.hid (fun X hX => by have := rwell_any t q r1 X hX; rw [decide_eq_true he] at this; exact this)
    by_cases h0 : n = 0
    · as_aux_lemma =>
      subst h0
      rw [show checkR (decide ((0 : Int) = 0) || decide ((0 : Int) = 1)) r1 = r1 from checkR_yes r1]
      show Calls _ _ _ _ fun e w' => e = .returned (.bool false) ∧ _
      go_enter Try.func33, Try.ntmps33
      go_wp2_with (first
        | (go_at_call 32; (with_reducible refine HN.out.mono ?_); rintro e w1 ⟨rfl, hs, hg⟩)
        | (go_at_call 58; (with_reducible refine (HWL.out _ hs).mono ?_); rintro e w2 ⟨rfl, rfl⟩))
      go_ret
      exact ⟨rfl, hs, hg⟩
    · by_cases h1 : n = 1
      · as_aux_lemma =>
        subst h1
        rw [show checkR (decide ((1 : Int) = 0) || decide ((1 : Int) = 1)) r1 = r1 from checkR_yes r1]
        show Calls _ _ _ _ fun e w' => e = .returned (.bool true) ∧ _
        go_enter Try.func33, Try.ntmps33
        go_wp2_with (first
          | (go_at_call 32; (with_reducible refine HN.out.mono ?_); rintro e w1 ⟨rfl, hs, hg⟩)
          | (go_at_call 58; (with_reducible refine (HWL.out _ hs).mono ?_); rintro e w2 ⟨rfl, rfl⟩))
        go_ret
        exact ⟨rfl, hs, hg⟩
      · as_aux_lemma =>
        have z0 : (n == 0) = false := by rw [beq_eq_false_iff_ne]; exact h0
        have z1 : (n == 1) = false := by rw [beq_eq_false_iff_ne]; exact h1
        have z2 : (n != 0) = true := by unfold bne; rw [z0]; rfl
        have z3 : (n != 1) = true := by unfold bne; rw [z1]; rfl
        rw [decide_eq_false h0, decide_eq_false h1, Bool.or_false, checkR_no r1 he]
        clear h0 h1 he
        go_enter Try.func33, Try.ntmps33
        go_wp2_with (first
          | (go_at_call 32; (with_reducible refine HN.out.mono ?_); rintro e w1 ⟨rfl, hs, hg⟩)
          | (go_at_call 58; (with_reducible refine (HWL.out _ hs).mono ?_); rintro e w2 ⟨rfl, rfl⟩; have c0 := hs.c0; have c1 := hs.r.c1; have f1 := hs.r.f 1; have HS2 := Lib.hid (HS.out _ hs)))
        go_ret
        exact ⟨rfl, HS2.out.1, hg.trans HS2.out.2⟩
  · as_aux_lemma =>
    have HWL : Hid (∀ X, Tq t q r1 X → Calls Try.prog 58 #[.pointer (some ⟨t, 0, none⟩)] X fun e w' => e = .returned (.bool false) ∧ w' = X) := Lib.hid (fun X hX => by have := rwell_any t q r1 X hX; rw [decide_eq_false he] at this; exact this)
    rw [checkR_e _ r1 he]
    have HDN : Hid (decide (n = 1) = (n == 1)) := Lib.hid (by by_cases h : n = 1 <;> simp [h])
    clear he
    go_enter Try.func33, Try.ntmps33
    go_wp2_with (first
      | (go_at_call 32; (with_reducible refine HN.out.mono ?_); rintro e w1 ⟨rfl, hs, hg⟩)
      | (go_at_call 58; (with_reducible refine (HWL.out _ hs).mono ?_); rintro e w2 ⟨rfl, rfl⟩))
    go_ret
    exact ⟨by rw [HDN.out]; rfl, hs, hg⟩
theorem rflag_at (t q : Nat) (htq : t ≠ q) (r : Rd) (hl : Bd r) {n : Bool} {r1 : Rd} (hn : flagR r = (n, r1)) (w : World) (h : Tq t q r w) :
    Calls Try.prog 33 #[.pointer (some ⟨t, 0, none⟩)] w fun e w' => e = .returned (.bool n) ∧ Tq t q r1 w' ∧ Gr2 q q w w' := by
  have := rflag_any t q htq r hl w h
  rw [hn] at this
  exact this
set_option maxRecDepth 100000 in
set_option maxHeartbeats 1000000 in
theorem rmany_any (t q : Nat) (htq : t ≠ q) (r : Rd) (hl : Bd r) (w : World) (h : Tq t q r w) :
    Calls Try.prog 57 #[.pointer (some ⟨t, 0, none⟩)] w fun e w' => e = .returned (.int .i64 ((manyR r).1 : Int)) ∧ Tq t q (manyR r).2 w' ∧ Gr2 q q w w' := by
  have c0 := h.c0
  obtain ⟨n, r1, hn⟩ : ∃ a s, numR r = (a, s) := ⟨_, _, rfl⟩
  have HN := Lib.hid (rnum_at t q htq r hl hn w h)
  unfold manyR
  rw [hn]
  simp only
  clear h hn
  have HS := Lib.hid (fun X (hX : Tq t q r1 X) => hX.set11 htq)
  by_cases he : r1.e = 0
  · have HWL : Hid (∀ X, Tq t q r1 X → Calls Try.prog 58 #[.pointer (some ⟨t, 0, none⟩)] X fun e w' => e = .returned (.bool true) ∧ w' = X) := Lib.hid (fun X hX => by have := rwell_any t q r1 X hX; rw [decide_eq_true he] at this; exact this)
    rw [if_neg (by omega)]
    by_cases hb : n < 0 ∨ 10000 < n
    · rw [if_pos hb]
      have HWF : Hid (∀ X, Tq t q ⟨r1.l, 11⟩ X → Calls Try.prog 58 #[.pointer (some ⟨t, 0, none⟩)] X fun e w' => e = .returned (.bool false) ∧ w' = X) := Lib.hid (fun X hX => by have := rwell_any t q ⟨r1.l, 11⟩ X hX; rw [decide_eq_false (by simp)] at this; exact this)
      by_cases h0 : n < 0
      · as_aux_lemma =>
        have d0 : decide (n < 0) = true := decide_eq_true h0
        clear hb he
        go_enter Try.func57, Try.ntmps57
        go_wp2_with (first
          | (go_at_call 32; (with_reducible refine HN.out.mono ?_); rintro e w1 ⟨rfl, hs, hg⟩)
          | (go_at_call 58; (with_reducible refine (HWL.out _ hs).mono ?_); rintro e w2 ⟨rfl, rfl⟩; have c0 := hs.c0; have c1 := hs.r.c1; have f1 := hs.r.f 1; have HS2 := Lib.hid (HS.out _ hs); clear HWL)
          | (go_at_call 58; (with_reducible refine (HWF.out _ HS2.out.1).mono ?_); rintro e w3 ⟨rfl, rfl⟩))
        go_ret
        exact ⟨rfl, HS2.out.1, hg.trans HS2.out.2⟩
      · as_aux_lemma =>
        have d0 : decide (n < 0) = false := decide_eq_false h0
        have d1 : decide (10000 < n) = true := decide_eq_true (by omega)
        clear hb he
        go_enter Try.func57, Try.ntmps57
        go_wp2_with (first
          | (go_at_call 32; (with_reducible refine HN.out.mono ?_); rintro e w1 ⟨rfl, hs, hg⟩)
          | (go_at_call 58; (with_reducible refine (HWL.out _ hs).mono ?_); rintro e w2 ⟨rfl, rfl⟩; have c0 := hs.c0; have c1 := hs.r.c1; have f1 := hs.r.f 1; have HS2 := Lib.hid (HS.out _ hs); clear HWL)
          | (go_at_call 58; (with_reducible refine (HWF.out _ HS2.out.1).mono ?_); rintro e w3 ⟨rfl, rfl⟩))
        go_ret
        exact ⟨rfl, HS2.out.1, hg.trans HS2.out.2⟩
    · as_aux_lemma =>
      rw [if_neg hb]
      have d0 : decide (n < 0) = false := decide_eq_false (by omega)
      have d1 : decide (10000 < n) = false := decide_eq_false (by omega)
      have HT : Hid (((n.toNat : Nat) : Int) = n) := Lib.hid (by omega)
      simp only [HT.out]
      clear hb he HS
      go_enter Try.func57, Try.ntmps57
      go_wp2_with (first
        | (go_at_call 32; (with_reducible refine HN.out.mono ?_); rintro e w1 ⟨rfl, hs, hg⟩)
        | (go_at_call 58; (with_reducible refine (HWL.out _ hs).mono ?_); rintro e w2 ⟨rfl, rfl⟩))
      go_ret
      exact ⟨rfl, hs, hg⟩
  · as_aux_lemma =>
    rw [if_pos (by omega)]
    have HWL : Hid (∀ X, Tq t q r1 X → Calls Try.prog 58 #[.pointer (some ⟨t, 0, none⟩)] X fun e w' => e = .returned (.bool false) ∧ w' = X) := Lib.hid (fun X hX => by have := rwell_any t q r1 X hX; rw [decide_eq_false he] at this; exact this)
    clear he HS
    go_enter Try.func57, Try.ntmps57
    go_wp2_with (first
      | (go_at_call 32; (with_reducible refine HN.out.mono ?_); rintro e w1 ⟨rfl, hs, hg⟩)
      | (go_at_call 58; (with_reducible refine (HWL.out _ hs).mono ?_); rintro e w2 ⟨rfl, rfl⟩))
    go_ret
    exact ⟨rfl, hs, hg⟩
end Go.Proofs.Ytlcblkmmkphpmaa
