/- The walks of the laws' few, ops, some and awake. Printed by gen/genTalG.py. Conditions: as each theorem says. -/
import Derived.Test.YtlcblkmmkphpmaaTalFb
import Derived.Test.YtlcblkmmkphpmaaTalS
namespace Go.Proofs.Ytlcblkmmkphpmaa
open Go.RowKit

abbrev M63 : Nat := 9223372036854775807
theorem all_take {α : Type} (f : α → Bool) (L : List α) (i : Nat) (hi : i < L.length) (h : (L.take i).all f = true) : (L.take (i + 1)).all f = f L[i] := by
  rw [List.take_succ_eq_append_getElem hi, List.all_append, h]; simp
theorem all_stop {α : Type} (f : α → Bool) (L : List α) (i : Nat) (hi : i < L.length) (h : f L[i] = false) : L.all f = false := by
  rw [List.all_eq_false]
  exact ⟨L[i], List.getElem_mem hi, by simp [h]⟩
theorem all_end {α : Type} (f : α → Bool) (L : List α) (i : Nat) (hi : ¬ i < L.length) (h : (L.take i).all f = true) : L.all f = true := by
  rw [List.take_of_length_le (by omega)] at h; exact h
def Cp.sz (x : Cp) : Prop := x.key.length ≤ M63 ∧ x.value.length ≤ M63
def Rg.sz (x : Rg) : Prop := x.key.length ≤ M63 ∧ x.end_.length ≤ M63
def Opr.sz (x : Opr) : Prop := x.rg.sz ∧ x.value.length ≤ M63
def Kvr.sz (x : Kvr) : Prop := x.key.length ≤ M63 ∧ x.value.length ≤ M63
def Ans.sz (x : Ans) : Prop := x.kvs.length ≤ M63 ∧ ∀ k ∈ x.kvs, k.sz
def Req.sz (x : Req) : Prop := (x.cmp.length ≤ M63 ∧ x.thn.length ≤ M63 ∧ x.els.length ≤ M63) ∧ (∀ y ∈ x.cmp, y.sz) ∧ (∀ y ∈ x.thn, y.sz) ∧ (∀ y ∈ x.els, y.sz)
def Res.sz (x : Res) : Prop := x.ans.length ≤ M63 ∧ ∀ y ∈ x.ans, y.sz
theorem big_no (l : Byt) (h : l.length ≤ 1000) : decide ((1000 : Int) < ((bs l).size : Int)) = false := decide_eq_false (by rw [bs_size]; omega)
theorem big_yes (l : Byt) (h : ¬ l.length ≤ 1000) : decide ((1000 : Int) < ((bs l).size : Int)) = true := decide_eq_true (by rw [bs_size]; omega)
set_option maxRecDepth 100000 in
set_option maxHeartbeats 1000000 in
theorem lops_any (L : List Opr) (a : Option Addr) (cap : Nat) (w : World) (hL : RowsAt 10 opV w (.slice a L.length cap) L) (hn : L.length ≤ M63) (hs : ∀ x ∈ L, x.sz) :
    Calls Try.prog 37 #[.slice a L.length cap] w fun e w' => e = .returned (.bool (L.all fewOp)) ∧ w' = w := by
  have HL := Lib.hid hL
  have HS := Lib.hid hs
  unfold M63 at hn
  clear hL hs
  go_enter Try.func37, Try.ntmps37
  go_wp2_with (fail)
  go_loop [3] (fun v3 => ∃ i : Nat, v3 = .int .i64 (i : Int) ∧ i ≤ L.length ∧ Hid ((L.take i).all fewOp = true)) (fun v3 => L.length - (intOf v3).toNat)
  case atStart => exact ⟨0, rfl, by omega, by show _ = _; simp⟩
  case round =>
    obtain ⟨i, rfl, hi, hall⟩ := hrel
    by_cases hlt : i < L.length
    · have q0 : decide (i < L.length) = true := decide_eq_true hlt
      obtain ⟨bb, off, rfl, hc⟩ := HL.out.get i hlt
      have c1 : w.cell? ⟨bb, off + i * 10 + 1, none⟩ = some _ := hc 1 _ rfl
      have c2 : w.cell? ⟨bb, off + i * 10 + 2, none⟩ = some _ := hc 2 _ rfl
      have c8 : w.cell? ⟨bb, off + i * 10 + 8, none⟩ = some _ := hc 8 _ rfl
      have hsz := HS.out _ (List.getElem_mem hlt)
      have s0 : (bs L[i].rg.key).size ≤ 9223372036854775807 := by rw [bs_size]; exact hsz.1.1
      have s1 : (bs L[i].rg.end_).size ≤ 9223372036854775807 := by rw [bs_size]; exact hsz.1.2
      have s2 : (bs L[i].value).size ≤ 9223372036854775807 := by rw [bs_size]; exact hsz.2
      clear hc hsz
      by_cases k0 : (L[i].rg.key).length ≤ 1000
      · have t0 := big_no (L[i].rg.key) k0
        by_cases k1 : (L[i].rg.end_).length ≤ 1000
        · have t1 := big_no (L[i].rg.end_) k1
          by_cases k2 : (L[i].value).length ≤ 1000
          · have t2 := big_no (L[i].value) k2
            as_aux_lemma =>
            have HT := Lib.hid (show (L.take (i + 1)).all fewOp = true by rw [all_take fewOp L i hlt hall.out]; unfold fewOp fewRg; simp [k0, k1, k2])
            clear hall k0 k1 k2
            generalize L[i] = x at *
            go_wp2_with (fail)
            go_round
            case rel => exact ⟨i + 1, by go_num, by omega, HT⟩
            case measure => simp [intOf]; omega
          · as_aux_lemma =>
            have t2 := big_yes (L[i].value) k2
            have HF := Lib.hid (all_stop fewOp L i hlt (by unfold fewOp fewRg; simp [*]))
            clear hall
            generalize L[i] = x at *
            go_wp2_with (fail)
            go_ret
            exact ⟨by rw [HF.out]; rfl, rfl⟩
        · as_aux_lemma =>
          have t1 := big_yes (L[i].rg.end_) k1
          have HF := Lib.hid (all_stop fewOp L i hlt (by unfold fewOp fewRg; simp [*]))
          clear hall
          generalize L[i] = x at *
          go_wp2_with (fail)
          go_ret
          exact ⟨by rw [HF.out]; rfl, rfl⟩
      · as_aux_lemma =>
        have t0 := big_yes (L[i].rg.key) k0
        have HF := Lib.hid (all_stop fewOp L i hlt (by unfold fewOp fewRg; simp [*]))
        clear hall
        generalize L[i] = x at *
        go_wp2_with (fail)
        go_ret
        exact ⟨by rw [HF.out]; rfl, rfl⟩
    · as_aux_lemma =>
      have q0 : decide (i < L.length) = false := decide_eq_false hlt
      have HF := Lib.hid (all_end fewOp L i hlt hall.out)
      clear hall
      go_wp2_with (fail)
      go_ret
      exact ⟨by rw [HF.out]; rfl, rfl⟩
set_option maxRecDepth 100000 in
set_option maxHeartbeats 1000000 in
theorem lfew_any (x : Req) (s1 s2 s3 : Value) (w : World) (h : RqAt w x s1 s2 s3) (hs : x.sz) :
    Calls Try.prog 14 #[.agg (rqV x s1 s2 s3).toArray] w fun e w' => e = .returned (.bool (fewRq x)) ∧ Below w.heap.size w w' := by
  obtain ⟨a1, p1, rfl⟩ := h.h1.form
  obtain ⟨a2, p2, rfl⟩ := h.h2.form
  obtain ⟨a3, p3, rfl⟩ := h.h3.form
  obtain ⟨W, hW⟩ : ∃ X, X = w.alloc (.cells (rqV x (.slice a1 x.cmp.length p1) (.slice a2 x.thn.length p2) (.slice a3 x.els.length p3)).toArray 26) := ⟨_, rfl⟩
  have hB : Below w.heap.size w W := by rw [hW]; exact alloc_below w _
  have hb0 : BlkAt w.heap.size 26 (rqV x (.slice a1 x.cmp.length p1) (.slice a2 x.thn.length p2) (.slice a3 x.els.length p3)) W := by rw [hW]; exact BlkAt.alloc_new w _ _
  have hh := h.grew hB
  have m1 := BlkAt.cell hb0 (i := 1) rfl
  have m2 := BlkAt.cell hb0 (i := 2) rfl
  have m3 := BlkAt.cell hb0 (i := 3) rfl
  have HB := Lib.hid hB
  have HW := Lib.hid hW
  have HR := Lib.hid hh.h1
  have HSZ := Lib.hid hs.2.1
  obtain ⟨⟨n1, n2, n3⟩, _, z2, z3⟩ := hs
  have HO2 := Lib.hid (lops_any x.thn a2 p2 W hh.h2 n2 z2)
  have HO3 := Lib.hid (lops_any x.els a3 p3 W hh.h3 n3 z3)
  unfold M63 at n1 n2 n3
  clear h hW hB hb0 hh z2 z3
  unfold rqV at *
  go_enter Try.func14, Try.ntmps14
  go_upto_region 1 with (fail)
  rw [← HW.out]
  clear HW
  by_cases g1 : x.cmp.length ≤ 30
  · have t1 : decide ((30 : Int) < (x.cmp.length : Int)) = false := decide_eq_false (by omega)
    by_cases g2 : x.thn.length ≤ 30
    · have t2 : decide ((30 : Int) < (x.thn.length : Int)) = false := decide_eq_false (by omega)
      by_cases g3 : x.els.length ≤ 30
      · have t3 : decide ((30 : Int) < (x.els.length : Int)) = false := decide_eq_false (by omega)
        go_wp2_with (fail)
        go_loop [3] (fun v3 => ∃ i : Nat, v3 = .int .i64 (i : Int) ∧ i ≤ x.cmp.length ∧ Hid ((x.cmp.take i).all fewCp = true)) (fun v3 => x.cmp.length - (intOf v3).toNat)
        case atStart => exact ⟨0, rfl, by omega, by show _ = _; simp⟩
        case round =>
          obtain ⟨i, rfl, hi, hall⟩ := hrel
          by_cases hlt : i < x.cmp.length
          · have q0 : decide (i < x.cmp.length) = true := decide_eq_true hlt
            obtain ⟨bb, off, rfl, hc⟩ := HR.out.get i hlt
            have c0 : W.cell? ⟨bb, off + i * 5, none⟩ = some _ := hc 0 _ rfl
            have c4 : W.cell? ⟨bb, off + i * 5 + 4, none⟩ = some _ := hc 4 _ rfl
            have hsz := HSZ.out _ (List.getElem_mem hlt)
            have s0 : (bs x.cmp[i].key).size ≤ 9223372036854775807 := by rw [bs_size]; exact hsz.1
            have s1 : (bs x.cmp[i].value).size ≤ 9223372036854775807 := by rw [bs_size]; exact hsz.2
            clear hc hsz HO2 HO3
            by_cases k0 : (x.cmp[i].key).length ≤ 1000
            · have t0 := big_no (x.cmp[i].key) k0
              by_cases k1 : (x.cmp[i].value).length ≤ 1000
              · have t1 := big_no (x.cmp[i].value) k1
                as_aux_lemma =>
                have HT := Lib.hid (show (x.cmp.take (i + 1)).all fewCp = true by rw [all_take fewCp x.cmp i hlt hall.out]; unfold fewCp; simp [k0, k1])
                clear hall k0 k1
                generalize x.cmp[i] = y at *
                go_wp2_with (fail)
                go_round
                case rel => exact ⟨i + 1, by go_num, by omega, HT⟩
                case measure => simp [intOf]; omega
              · as_aux_lemma =>
                have t1 := big_yes (x.cmp[i].value) k1
                have HF := Lib.hid (show fewRq x = false by unfold fewRq; rw [all_stop fewCp x.cmp i hlt (by unfold fewCp; simp [*])]; simp)
                clear hall
                generalize x.cmp[i] = y at *
                go_wp2_with (fail)
                go_ret
                exact ⟨by rw [HF.out]; rfl, HB.out⟩
            · as_aux_lemma =>
              have t0 := big_yes (x.cmp[i].key) k0
              have HF := Lib.hid (show fewRq x = false by unfold fewRq; rw [all_stop fewCp x.cmp i hlt (by unfold fewCp; simp [*])]; simp)
              clear hall
              generalize x.cmp[i] = y at *
              go_wp2_with (fail)
              go_ret
              exact ⟨by rw [HF.out]; rfl, HB.out⟩
          · have q0 : decide (i < x.cmp.length) = false := decide_eq_false hlt
            have hcp := all_end fewCp x.cmp i hlt hall.out
            have HF : Hid (fewRq x = (x.thn.all fewOp && x.els.all fewOp)) := Lib.hid (by unfold fewRq; rw [hcp]; simp [g1, g2, g3])
            clear hall hcp
            cases hth : x.thn.all fewOp with
            | true =>
              rw [hth] at HO2 HF
              go_wp2_with (go_at_call 37; first | ((with_reducible refine HO2.out.mono ?_); rintro e w1 ⟨rfl, rfl⟩) | ((with_reducible refine HO3.out.mono ?_); rintro e w1 ⟨rfl, rfl⟩))
              go_ret
              exact ⟨by rw [HF.out]; simp, HB.out⟩
            | false =>
              rw [hth] at HO2 HF
              go_wp2_with (go_at_call 37; (with_reducible refine HO2.out.mono ?_); rintro e w1 ⟨rfl, rfl⟩)
              go_ret
              exact ⟨by rw [HF.out]; rfl, HB.out⟩
      · as_aux_lemma =>
        have t3 : decide ((30 : Int) < (x.els.length : Int)) = true := decide_eq_true (by omega)
        have HF : Hid (fewRq x = false) := Lib.hid (by unfold fewRq; simp [g3])
        clear HO2 HO3
        go_wp2_with (fail)
        go_ret
        exact ⟨by rw [HF.out]; rfl, HB.out⟩
    · as_aux_lemma =>
      have t2 : decide ((30 : Int) < (x.thn.length : Int)) = true := decide_eq_true (by omega)
      have HF : Hid (fewRq x = false) := Lib.hid (by unfold fewRq; simp [g2])
      clear HO2 HO3
      go_wp2_with (fail)
      go_ret
      exact ⟨by rw [HF.out]; rfl, HB.out⟩
  · as_aux_lemma =>
    have t1 : decide ((30 : Int) < (x.cmp.length : Int)) = true := decide_eq_true (by omega)
    have HF : Hid (fewRq x = false) := Lib.hid (by unfold fewRq; simp [g1])
    clear HO2 HO3
    go_wp2_with (fail)
    go_ret
    exact ⟨by rw [HF.out]; rfl, HB.out⟩
theorem awake_bytes : bs (askL 1 2 ⟨2, [], [], [], 3, 0, 0⟩) = ⟨#[2, 4, 0, 4, 0, 0, 0, 6, 0, 0]⟩ := by decide +kernel
theorem awake_parse : parseL [] = (zeroAskd, 10) := by kernel_rfl
set_option maxRecDepth 100000 in
set_option maxHeartbeats 1000000 in
theorem awake_any (w : World) : Calls Try.prog 10 #[] w fun e w' => e = .returned (.bool true) ∧ Below w.heap.size w w' := by
  have H0 : Hid (∀ X, Calls Try.prog 11 #[.string ⟨#[]⟩] X (ParseSaid X zeroAskd 10)) := Lib.hid (fun X => by
    have h := parse_any [] (by simp) X
    rw [awake_parse] at h
    exact h)
  have H1 : Hid (∀ X, Calls Try.prog 15 #[.int .i64 1, .int .i64 2, .agg #[.int .i64 2, .slice none 0 0, .slice none 0 0, .slice none 0 0, .int .i64 3, .int .i64 0, .int .i64 0]] X fun e w' => e = .returned (.string ⟨#[2, 4, 0, 4, 0, 0, 0, 6, 0, 0]⟩) ∧ Below X.heap.size X w') := Lib.hid (fun X => by
    have h := ask_any 1 2 (by unfold i64; omega) (by unfold i64; omega) ⟨2, [], [], [], 3, 0, 0⟩ ⟨by show i64 2; unfold i64; omega, ⟨by simp, by simp⟩, ⟨by simp, by simp⟩, ⟨by simp, by simp⟩, by show i64 3; unfold i64; omega, by show i64 0; unfold i64; omega, by show i64 0; unfold i64; omega⟩ (.slice none 0 0) (.slice none 0 0) (.slice none 0 0) (by decide +kernel) X ⟨rows_nil _, rows_nil _, rows_nil _⟩
    rw [awake_bytes] at h
    exact h)
  go_enter Try.func10, Try.ntmps10
  go_wp2_with (first
    | (go_at_call 11; (with_reducible refine (H0.out _).mono ?_); rintro e w1 ⟨u1, u2, u3, rfl, hR, hb⟩; obtain ⟨b1, c1, rfl⟩ := hR.h1.form; obtain ⟨b2, c2, rfl⟩ := hR.h2.form; obtain ⟨b3, c3, rfl⟩ := hR.h3.form; have HB1 := Lib.hid hb; clear hR hb; unfold askdV zeroAskd zeroReq zeroRg at *; simp only at *)
    | (go_at_call 15; (with_reducible refine (H1.out _).mono ?_); rintro e w2 ⟨rfl, hb⟩; have HB2 := Lib.hid hb; clear hb))
  go_ret
  exact ⟨rfl, (HB1.out.trans ((alloc_below _ _).mono HB1.out.size)).trans (HB2.out.mono (Nat.le_trans HB1.out.size (alloc_below _ _).size))⟩
end Go.Proofs.Ytlcblkmmkphpmaa
