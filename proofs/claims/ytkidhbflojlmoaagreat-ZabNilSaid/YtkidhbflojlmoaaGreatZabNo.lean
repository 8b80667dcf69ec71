/- The law of a nil node. Conditions: as each theorem says. -/
import Derived.Test.YtkidhbflojlmoaaGreatZabNn
namespace Go.Proofs.YtkidhbflojlmoaaGreat
open Go.RowKit

set_option maxRecDepth 100000 in
set_option maxHeartbeats 8000000 in
theorem nil_any (n : Int) (m : Msg) (a : Option Addr) (cap : Nat) (w : World) (hE : EntsIn w a cap m.ents) (hm : m.ok) :
    Calls Tryz.prog 4 #[.int .i64 n, msgV m a cap] w fun e w' => e = .returned (.bool true) ∧ Below w.heap.size w w' := by
  have HAw := Lib.hid awake_any
  have hF := fun W (hB : Below w.heap.size w W) => fewM_any m a cap W (hE.grew hB) hm
  have HOf := fun hf W (hB : Below w.heap.size w W) => of_any m a cap W (hE.grew hB) hm hf
  have hO1 := alloc_below w (.cells (msgCells m a cap).toArray 54)
  have hO2 := BlkAt.alloc_new w (msgCells m a cap) 54
  have HP := Lib.hid propose_nil
  have HS := Lib.hid start_nil
  have HT := Lib.hid tick_nil
  have HTk := Lib.hid take_nil
  have HC := Lib.hid (fun s W => compact_nil 0 0 s W)
  have HSt := Lib.hid state_nil
  have HPh := Lib.hid phase_nil
  have HPl := plain_zero
  have HSa := same_zero
  unfold zeroS at HPl HSa
  have HPl := Lib.hid HPl
  have HSa := Lib.hid HSa
  unfold OfSaid at HOf
  have HF := Lib.hid hF
  have HOf := Lib.hid HOf
  have HO := Lib.hid (And.intro hO1 hO2)
  clear hF hO1 hO2 hE hm
  unfold msgV msgCells at *
  cases hf : fewM m with
  | false =>
    as_aux_lemma =>
    rw [hf] at HF
    clear HOf hf
    go_enter Tryz.func4, Tryz.ntmps4
    go_wp2_with (first
      | (go_at_call 13; (with_reducible refine (HF.out _ HO.out.1).mono ?_); rintro e w1 ⟨rfl, hb1⟩)
      | (go_at_call 5; (with_reducible refine (HAw.out _).mono ?_); rintro e w2 ⟨rfl, hb2⟩))
    go_ret
    exact ⟨rfl, (HO.out.1.trans (hb1.mono HO.out.1.size)).trans (hb2.mono (Nat.le_trans HO.out.1.size hb1.size))⟩
  | true =>
    rw [hf] at HF
    have HOf := Lib.hid (HOf.out hf)
    clear hf
    go_enter Tryz.func4, Tryz.ntmps4
    go_upto_region 5 with (first
      | (go_at_call 13; (with_reducible refine (HF.out _ HO.out.1).mono ?_); rintro e w1 ⟨rfl, hb1⟩)
      | (go_at_call 14; (with_reducible refine (HP.out _ _).mono ?_); rintro e w2 ⟨rfl, hb2⟩))
    have HB2 := Lib.hid ((HO.out.1.trans (hb1.mono HO.out.1.size)).trans (hb2.mono (Nat.le_trans HO.out.1.size hb1.size)))
    have HM2 := Lib.hid (BlkAt.grew (BlkAt.grew HO.out.2 hb1) hb2)
    clear hb1 hb2 HO
    go_wp2_with (first
      | (go_at_call 15; (with_reducible refine (HS.out _).mono ?_); rintro e w3 ⟨rfl, hb3⟩)
      | (go_at_call 16; (with_reducible refine (HT.out _).mono ?_); rintro e w4 ⟨rfl, hb4⟩; have hB4 : Below w.heap.size w w4 := HB2.out.trans ((hb3.trans (hb4.mono hb3.size)).mono HB2.out.size); have hM := BlkAt.grew (BlkAt.grew HM2.out hb3) hb4; have m0 := hM.cell (i := 0) (v := .int .i64 m.ty) rfl; have m1 := hM.cell (i := 1) (v := .int .i64 m.ld) rfl; have m2 := hM.cell (i := 2) (v := .int .i64 m.a.1) rfl; have m3 := hM.cell (i := 3) (v := .int .i64 m.a.2) rfl; have m4 := hM.cell (i := 4) (v := .int .i64 m.ep) rfl; have m5 := hM.cell (i := 5) (v := .int .i64 m.own) rfl; have m6 := hM.cell (i := 6) (v := .int .i64 m.f.1) rfl; have m7 := hM.cell (i := 7) (v := .int .i64 m.f.2) rfl; have m8 := hM.cell (i := 8) (v := .int .i64 m.rnd) rfl; have m9 := hM.cell (i := 9) (v := .int .i64 m.st) rfl; have m10 := hM.cell (i := 10) (v := .int .i64 m.kd) rfl; have m11 := hM.cell (i := 11) (v := .string (bs m.body)) rfl; have m12 := hM.cell (i := 12) (v := .slice a m.ents.length cap) rfl; have m13 := hM.cell (i := 13) (v := .bool m.flag) rfl; have m14 := hM.cell (i := 14) (v := .int .i64 m.node) rfl; have m15 := hM.cell (i := 15) (v := .int .i64 m.cli) rfl; have m16 := hM.cell (i := 16) (v := .int .i64 m.seq) rfl; clear hM hb3 hb4)
      | (go_at_call 18; (with_reducible refine (HOf.out _ hB4).mono ?_); rintro e w5 ⟨v, rfl, -, hb5⟩)
      | (go_at_call 17; (with_reducible refine (HTk.out _ _ _).mono ?_); rintro e w6 ⟨rfl, hb6⟩; have hB6 := hB4.trans ((hb5.trans (hb6.mono hb5.size)).mono hB4.size); clear hB4 hb5 hb6 m0 m1 m2 m3 m4 m5 m6 m7 m8 m9 m10 m11 m12 m13 m14 m15 m16)
      | (go_at_call 19; (with_reducible refine (HC.out _ _).mono ?_); rintro e w7 ⟨rfl, hb7⟩)
      | (go_at_call 11; (with_reducible refine (HSt.out _).mono ?_); rintro e w8 ⟨rfl, hb8⟩)
      | (go_at_call 21; (with_reducible refine (HPl.out _).mono ?_); rintro e w9 ⟨rfl, hb9⟩)
      | (go_at_call 20; (with_reducible refine (HSa.out _).mono ?_); rintro e wa ⟨rfl, hba⟩)
      | (go_at_call 10; (with_reducible refine (HPh.out _).mono ?_); rintro e wb ⟨rfl, hbb⟩)
      | (go_at_call 5; (with_reducible refine (HAw.out _).mono ?_); rintro e wc ⟨rfl, hbc⟩))
    go_ret
    have t7 := hB6.trans (hb7.mono hB6.size)
    have t8 := t7.trans (hb8.mono t7.size)
    have t9 := t8.trans (hb9.mono t8.size)
    have ta := t9.trans (hba.mono t9.size)
    have tb := ta.trans (hbb.mono ta.size)
    exact ⟨rfl, tb.trans (hbc.mono tb.size)⟩
theorem zabNil_walk (W : World) (n : Int) (v : Value) (_ : (Lit.int .i64 n).wf = true) (h : IsMsg W v) : Calls Tryz.prog 4 #[.int .i64 n, v] W fun e w' => e = .returned (.bool true) ∧ Below W.heap.size W w' := by
  obtain ⟨m, a, cap, rfl, hE, hm⟩ := h
  exact nil_any n m a cap W hE hm
end Go.Proofs.YtkidhbflojlmoaaGreat
