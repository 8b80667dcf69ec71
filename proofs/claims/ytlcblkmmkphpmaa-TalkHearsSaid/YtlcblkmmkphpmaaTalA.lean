/- The walks of talk's reader: wrong, check, num, text, flag, ended. Conditions: as each theorem says. -/
import Derived.Test.YtlcblkmmkphpmaaPackU
import Derived.Test.YtlcblkmmkphpmaaGr2
import Derived.Test.YtlcblkmmkphpmaaTalP
namespace Go.Proofs.Ytlcblkmmkphpmaa
open Go.RowKit

theorem dec_code (l : List UInt8) : ∀ i u, (dec i u l).1 = 0 ∨ (dec i u l).1 = 10 ∨ (dec i u l).1 = 11 := by
  induction l with
  | nil => intro i u; simp [dec]
  | cons b r ih =>
    intro i u
    unfold dec
    split
    · simp
    · split
      · simp
      · split
        · simp
        · exact ih _ _
def Rd.ok (r : Rd) : Prop := r.e = 0 ∨ r.e = 10 ∨ r.e = 11
theorem numR_ok3 (r : Rd) (h : r.ok) : (numR r).2.ok := by
  unfold numR Rd.ok at *
  have := dec_code r.l 0 0
  split
  · exact h
  · split
    · simp
    · exact this
theorem textR_ok3 (r : Rd) (h : r.ok) : (textR r).2.ok := by
  have := numR_ok3 r h
  unfold textR Rd.ok at *
  split
  · exact this
  · split
    · simp
    · split
      · simp
      · simp
theorem flagR_ok3 (r : Rd) (h : r.ok) : (flagR r).2.ok := by
  have := numR_ok3 r h
  unfold flagR Rd.ok at *
  split
  · simp
  · exact this
abbrev PackRd : TypeId := 111
abbrev TRd : TypeId := 63
/-- Talk's reader at v, over the pack's reader at q: what is left, what is wrong. -/
structure Tk (v q : Nat) (r : Rd) (w : World) : Prop where
  ok : r.ok
  s : (BlkAt v TRd [.pointer (some ⟨q, 0, none⟩), .bool false] w ∧ RdAt PackRd q r w) ∨ (r.e = 11 ∧ BlkAt v TRd [.pointer (some ⟨q, 0, none⟩), .bool true] w ∧ RdAt PackRd q ⟨r.l, 0⟩ w)
theorem rd_blk {TR : TypeId} {q : Nat} {r : Rd} {w : World} (h : RdAt TR q r w) : BlkAt q TR [.string (bs r.l), .int .i64 (r.e : Int)] w := h
theorem Tk.lt {v q : Nat} {r : Rd} {w : World} (h : Tk v q r w) : v < w.heap.size ∧ q < w.heap.size := by
  rcases h.s with ⟨a, b⟩ | ⟨_, a, b⟩
  · exact ⟨a.lt, (rd_blk b).lt⟩
  · exact ⟨a.lt, (rd_blk b).lt⟩
theorem Tk.row {v q : Nat} {r : Rd} {a b : World} {k : Option Nat} (h : Tk v q r a) (g : a.grownBy b k) (hv : some v ≠ k) (hq : some q ≠ k) : Tk v q r b := by
  refine ⟨h.ok, ?_⟩
  rcases h.s with ⟨x, y⟩ | ⟨e, x, y⟩
  · exact .inl ⟨x.grown g hv, BlkAt.grown (rd_blk y) g hq⟩
  · exact .inr ⟨e, x.grown g hv, BlkAt.grown (rd_blk y) g hq⟩
theorem Tk.grew {v q : Nat} {r : Rd} {a b : World} (h : Tk v q r a) (g : Below a.heap.size a b) : Tk v q r b := by
  refine ⟨h.ok, ?_⟩
  rcases h.s with ⟨x, y⟩ | ⟨e, x, y⟩
  · exact .inl ⟨x.grew g, BlkAt.grew (rd_blk y) g⟩
  · exact .inr ⟨e, x.grew g, BlkAt.grew (rd_blk y) g⟩
theorem Tk.drew {v q : Nat} {r : Rd} {w : World} (h : Tk v q r w) : Tk v q r w.drew := ⟨h.ok, h.s⟩
theorem ok_ne {r : Rd} (h : r.ok) (h0 : r.e ≠ 0) : r.e = 10 ∨ r.e = 11 := by unfold Rd.ok at h; omega
theorem e_cast {r : Rd} (h : r.ok) (h0 : r.e ≠ 0) : ((r.e : Int) == 0) = false ∧ ((r.e : Int) == 12) = false := by
  have := ok_ne h h0
  constructor <;> (rw [beq_eq_false_iff_ne]; omega)
set_option maxRecDepth 100000 in
theorem twrong_any (v q : Nat) (bad : Bool) (r : Rd) (hok : r.ok) (w : World) (h1 : BlkAt v TRd [.pointer (some ⟨q, 0, none⟩), .bool bad] w) (h2 : RdAt PackRd q r w) :
    Calls Try.prog 76 #[.pointer (some ⟨v, 0, none⟩)] w fun e w' => e = .returned (.int .i64 (r.e : Int)) ∧ w' = w := by
  have c0 := BlkAt.cell h1 (i := 0) rfl
  have HE := Lib.hid (end_any q r w h2)
  by_cases h0 : r.e = 0
  · by_cases hl : r.l = []
    · as_aux_lemma =>
      have hE := endR_no r (fun hh => hh.2 hl)
      rw [hE, h0] at HE
      rw [h0]
      clear h1 h2 hE hok
      go_enter Try.func76, Try.ntmps76
      go_wp2_with (go_at_call 67; refine HE.out.mono ?_; rintro e w1 ⟨rfl, rfl⟩)
      go_ret
      exact ⟨rfl, rfl⟩
    · as_aux_lemma =>
      have hE := endR_ok r h0 hl
      rw [hE] at HE
      rw [h0]
      clear h1 h2 hE hok
      go_enter Try.func76, Try.ntmps76
      go_wp2_with (go_at_call 67; refine HE.out.mono ?_; rintro e w1 ⟨rfl, rfl⟩)
      go_ret
      exact ⟨rfl, rfl⟩
  · as_aux_lemma =>
    have hE := endR_no r (fun hh => h0 hh.1)
    rw [hE] at HE
    have h1 := (e_cast hok h0).2
    clear h1 h2 hE
    have h1 := (e_cast hok h0).2
    go_enter Try.func76, Try.ntmps76
    go_wp2_with (go_at_call 67; refine HE.out.mono ?_; rintro e w1 ⟨rfl, rfl⟩)
    go_ret
    exact ⟨rfl, rfl⟩
/-- What a check leaves. -/
def checkR (right : Bool) (r : Rd) : Rd := if right = false ∧ r.e = 0 then ⟨r.l, 11⟩ else r
theorem checkR_ok3 (b : Bool) (r : Rd) (h : r.ok) : (checkR b r).ok := by
  unfold checkR Rd.ok at *
  split
  · simp
  · exact h
theorem checkR_yes (r : Rd) : checkR true r = r := by unfold checkR; rw [if_neg (by simp)]
theorem checkR_no (r : Rd) (h : r.e = 0) : checkR false r = ⟨r.l, 11⟩ := by unfold checkR; rw [if_pos ⟨rfl, h⟩]
theorem checkR_e (b : Bool) (r : Rd) (h : r.e ≠ 0) : checkR b r = r := by unfold checkR; rw [if_neg (fun hh => h hh.2)]
set_option maxRecDepth 100000 in
theorem tcheck_any (v q : Nat) (hvq : v ≠ q) (right : Bool) (r : Rd) (w : World) (h : Tk v q r w) :
    Calls Try.prog 61 #[.pointer (some ⟨v, 0, none⟩), .bool right] w fun e w' => e = .returned (.tuple #[]) ∧ Tk v q (checkR right r) w' ∧ Gr2 q v w w' := by
  cases right with
  | true =>
    as_aux_lemma =>
    rw [checkR_yes]
    go_enter Try.func61, Try.ntmps61
    go_wp2_with (fail)
    go_end0
    exact ⟨rfl, h, Gr2.refl q v _⟩
  | false =>
    rcases h.s with ⟨h1, h2⟩ | ⟨he, h1, h2⟩
    · have HW := Lib.hid (fun W (hW : BlkAt v TRd [.pointer (some ⟨q, 0, none⟩), .bool false] W) (hR : RdAt PackRd q r W) => twrong_any v q false r h.ok W hW hR)
      by_cases h0 : r.e = 0
      · as_aux_lemma =>
        rw [checkR_no r h0]
        rw [h0] at HW
        have f1 := BlkAt.frozen h1 1
        have c1 := BlkAt.cell h1 (i := 1) rfl
        have h3 := BlkAt.set h1 1 (.bool true)
        have h4 : RdAt PackRd q ⟨r.l, 0⟩ w := by rw [← h0]; exact h2
        have h5 : Tk v q ⟨r.l, 11⟩ (w.setCell ⟨v, 1, none⟩ (.bool true)) := ⟨by simp [Rd.ok], .inr ⟨rfl, h3, BlkAt.grown (rd_blk h4) (grown_set w v 1 (.bool true)) (fun e => hvq (Option.some.inj e).symm)⟩⟩
        have HB := Lib.hid h1
        have HR := Lib.hid h2
        have H5 := Lib.hid h5
        have HT := Lib.hid (grown_set w v 1 (.bool true))
        clear h h1 h2 h3 h4 h5
        go_enter Try.func61, Try.ntmps61
        go_wp2_with (go_at_call 76; (with_reducible refine (HW.out _ HB.out HR.out).mono ?_); rintro e w1 ⟨rfl, rfl⟩)
        go_end0
        exact ⟨rfl, H5.out, Gr2.of_v HT.out⟩
      · as_aux_lemma =>
        rw [checkR_e _ r h0]
        have hz := (e_cast h.ok h0).1
        have HB := Lib.hid h1
        have HR := Lib.hid h2
        clear h1 h2
        go_enter Try.func61, Try.ntmps61
        go_wp2_with (go_at_call 76; (with_reducible refine (HW.out _ HB.out HR.out).mono ?_); rintro e w1 ⟨rfl, rfl⟩)
        go_end0
        exact ⟨rfl, h, Gr2.refl q v _⟩
    · as_aux_lemma =>
      have HW := Lib.hid (fun W (hW : BlkAt v TRd [.pointer (some ⟨q, 0, none⟩), .bool true] W) (hR : RdAt PackRd q ⟨r.l, 0⟩ W) => twrong_any v q true ⟨r.l, 0⟩ (.inl rfl) W hW hR)
      rw [checkR_e _ r (by omega)]
      have f1 := BlkAt.frozen h1 1
      have c1 := BlkAt.cell h1 (i := 1) rfl
      have h3 := BlkAt.set h1 1 (.bool true)
      have h5 : Tk v q r (w.setCell ⟨v, 1, none⟩ (.bool true)) := ⟨h.ok, .inr ⟨he, h3, BlkAt.grown (rd_blk h2) (grown_set w v 1 (.bool true)) (fun e => hvq (Option.some.inj e).symm)⟩⟩
      have HB := Lib.hid h1
      have HR := Lib.hid h2
      have H5 := Lib.hid h5
      have HT := Lib.hid (grown_set w v 1 (.bool true))
      clear h h1 h2 h3 h5
      go_enter Try.func61, Try.ntmps61
      go_wp2_with (go_at_call 76; (with_reducible refine (HW.out _ HB.out HR.out).mono ?_); rintro e w1 ⟨rfl, rfl⟩)
      go_end0
      exact ⟨rfl, H5.out, Gr2.of_v HT.out⟩
set_option maxRecDepth 100000 in
theorem tnum_any (v q : Nat) (hvq : v ≠ q) (r : Rd) (hl : r.l.length ≤ 9223372036854775807) (w : World) (h : Tk v q r w) :
    Calls Try.prog 27 #[.pointer (some ⟨v, 0, none⟩)] w fun e w' => e = .returned (.int .i64 (numR r).1) ∧ Tk v q (numR r).2 w' ∧ Gr2 q v w w' := by
  have hok := numR_ok3 r h.ok
  rcases h.s with ⟨h1, h2⟩ | ⟨he, h1, h2⟩
  · as_aux_lemma =>
    have HN := Lib.hid (numRead_any q r w h2 hl)
    have c0 := BlkAt.cell h1 (i := 0) rfl
    have c1 := BlkAt.cell h1 (i := 1) rfl
    have HB := Lib.hid h1
    clear h h1 h2
    generalize numR r = nr at *
    go_enter Try.func27, Try.ntmps27
    go_wp2_with (go_at_call 60; refine HN.out.mono ?_; rintro e w1 ⟨rfl, hR, hg⟩)
    go_ret
    exact ⟨rfl, ⟨hok, .inl ⟨HB.out.grown hg (fun e => hvq (Option.some.inj e)), hR⟩⟩, Gr2.of_q hg⟩
  · as_aux_lemma =>
    have c1 := BlkAt.cell h1 (i := 1) rfl
    rw [numR_bad0 r (by omega)]
    have H := Lib.hid h
    clear h h1 h2
    go_enter Try.func27, Try.ntmps27
    go_wp2_with (fail)
    go_ret
    exact ⟨rfl, H.out, Gr2.refl q v _⟩
theorem textR_bad0 (r : Rd) (h : r.e ≠ 0) : textR r = ([], r) := by unfold textR; rw [numR_bad0 r h, if_pos h]
set_option maxRecDepth 100000 in
theorem ttext_any (v q : Nat) (hvq : v ≠ q) (r : Rd) (hl : r.l.length ≤ 9223372036854775807) (w : World) (h : Tk v q r w) :
    Calls Try.prog 62 #[.pointer (some ⟨v, 0, none⟩)] w fun e w' => e = .returned (.string (bs (textR r).1)) ∧ Tk v q (textR r).2 w' ∧ Gr2 q v w w' := by
  have hok := textR_ok3 r h.ok
  rcases h.s with ⟨h1, h2⟩ | ⟨he, h1, h2⟩
  · as_aux_lemma =>
    have HN := Lib.hid (textRead_any q r w h2 hl)
    have c0 := BlkAt.cell h1 (i := 0) rfl
    have c1 := BlkAt.cell h1 (i := 1) rfl
    have HB := Lib.hid h1
    clear h h1 h2
    generalize textR r = nr at *
    go_enter Try.func62, Try.ntmps62
    go_wp2_with (go_at_call 81; refine HN.out.mono ?_; rintro e w1 ⟨rfl, hR, hg⟩)
    go_ret
    exact ⟨rfl, ⟨hok, .inl ⟨HB.out.grown hg (fun e => hvq (Option.some.inj e)), hR⟩⟩, Gr2.of_q hg⟩
  · as_aux_lemma =>
    have c1 := BlkAt.cell h1 (i := 1) rfl
    rw [textR_bad0 r (by omega)]
    have H := Lib.hid h
    clear h h1 h2
    go_enter Try.func62, Try.ntmps62
    go_wp2_with (fail)
    go_ret
    exact ⟨rfl, H.out, Gr2.refl q v _⟩
theorem flagR_is (r : Rd) : flagR r = (decide ((numR r).1 = 1), checkR (decide ((numR r).1 = 0) || decide ((numR r).1 = 1)) (numR r).2) := by
  unfold flagR checkR
  by_cases h0 : (numR r).1 = 0
  · rw [if_neg (by omega), if_neg (by simp [h0])]
  · by_cases h1 : (numR r).1 = 1
    · rw [if_neg (by omega), if_neg (by simp [h1])]
    · by_cases he : (numR r).2.e = 0
      · rw [if_pos ⟨he, h0, h1⟩, if_pos ⟨by simp [h0, h1], he⟩, decide_eq_false h1]
      · rw [if_neg (fun hh => he hh.1), if_neg (fun hh => he hh.2)]
set_option maxRecDepth 100000 in
theorem tflag_any (v q : Nat) (hvq : v ≠ q) (r : Rd) (hl : r.l.length ≤ 9223372036854775807) (w : World) (h : Tk v q r w) :
    Calls Try.prog 28 #[.pointer (some ⟨v, 0, none⟩)] w fun e w' => e = .returned (.bool (flagR r).1) ∧ Tk v q (flagR r).2 w' ∧ Gr2 q v w w' := by
  have HN := Lib.hid (tnum_any v q hvq r hl w h)
  rw [flagR_is]
  have HC := Lib.hid (fun b W (hW : Tk v q (numR r).2 W) => tcheck_any v q hvq b (numR r).2 W hW)
  clear h
  generalize numR r = nr at *
  obtain ⟨n, r1⟩ := nr
  simp only at HN HC ⊢
  have fin : ∀ b, Hid (∀ W, Tk v q r1 W → Calls Try.prog 61 #[.pointer (some ⟨v, 0, none⟩), .bool b] W fun e w' => e = .returned (.tuple #[]) ∧ Tk v q (checkR b r1) w' ∧ Gr2 q v W w') := fun b => Lib.hid (HC.out b)
  clear HC
  by_cases h0 : n = 0
  · as_aux_lemma =>
    subst h0
    have HC := fin true
    clear fin
    show Calls _ _ _ _ fun e w' => e = .returned (.bool false) ∧ Tk v q (checkR true r1) w' ∧ _
    go_enter Try.func28, Try.ntmps28
    go_wp2_with (go_at_call 27; refine HN.out.mono ?_; rintro e w1 ⟨rfl, hR, hg⟩)
    go_wp2_with (go_at_call 61; (with_reducible refine (HC.out _ hR).mono ?_); rintro e w2 ⟨rfl, hR2, hg2⟩)
    go_ret
    exact ⟨rfl, hR2, hg.trans hg2⟩
  · by_cases h1 : n = 1
    · as_aux_lemma =>
      subst h1
      have HC := fin true
      clear fin
      show Calls _ _ _ _ fun e w' => e = .returned (.bool true) ∧ Tk v q (checkR true r1) w' ∧ _
      go_enter Try.func28, Try.ntmps28
      go_wp2_with (go_at_call 27; refine HN.out.mono ?_; rintro e w1 ⟨rfl, hR, hg⟩)
      go_wp2_with (go_at_call 61; (with_reducible refine (HC.out _ hR).mono ?_); rintro e w2 ⟨rfl, hR2, hg2⟩)
      go_ret
      exact ⟨rfl, hR2, hg.trans hg2⟩
    · as_aux_lemma =>
      have HC := fin false
      clear fin
      have d0 : decide (n = 0) = false := decide_eq_false h0
      have d1 : decide (n = 1) = false := decide_eq_false h1
      rw [d0, d1]
      show Calls _ _ _ _ fun e w' => e = .returned (.bool false) ∧ Tk v q (checkR false r1) w' ∧ _
      have z0 : (n == 0) = false := by rw [beq_eq_false_iff_ne]; exact h0
      have z1 : (n == 1) = false := by rw [beq_eq_false_iff_ne]; exact h1
      go_enter Try.func28, Try.ntmps28
      go_wp2_with (go_at_call 27; refine HN.out.mono ?_; rintro e w1 ⟨rfl, hR, hg⟩)
      go_wp2_with (go_at_call 61; (with_reducible refine (HC.out _ hR).mono ?_); rintro e w2 ⟨rfl, hR2, hg2⟩)
      go_ret
      exact ⟨rfl, hR2, hg.trans hg2⟩
set_option maxRecDepth 100000 in
theorem tended_any (v q : Nat) (r : Rd) (w : World) (h : Tk v q r w) :
    Calls Try.prog 31 #[.pointer (some ⟨v, 0, none⟩)] w fun e w' => e = .returned (.int .i64 (endR r : Int)) ∧ w' = w := by
  rcases h.s with ⟨h1, h2⟩ | ⟨he, h1, h2⟩
  · as_aux_lemma =>
    have HE := Lib.hid (end_any q r w h2)
    have c0 := BlkAt.cell h1 (i := 0) rfl
    have c1 := BlkAt.cell h1 (i := 1) rfl
    clear h h1 h2
    generalize endR r = x at *
    go_enter Try.func31, Try.ntmps31
    go_wp2_with (go_at_call 67; refine HE.out.mono ?_; rintro e w1 ⟨rfl, rfl⟩)
    go_ret
    exact ⟨rfl, rfl⟩
  · as_aux_lemma =>
    have c1 := BlkAt.cell h1 (i := 1) rfl
    rw [endR_no r (by omega), he]
    clear h h1 h2
    go_enter Try.func31, Try.ntmps31
    go_wp2_with (fail)
    go_ret
    exact ⟨rfl, rfl⟩
end Go.Proofs.Ytlcblkmmkphpmaa
