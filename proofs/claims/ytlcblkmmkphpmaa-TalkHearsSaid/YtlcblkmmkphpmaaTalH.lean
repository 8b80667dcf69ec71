/- The laws TalkAsks and TalkAnswers walked. Conditions: as each theorem says. -/
import Derived.Test.YtlcblkmmkphpmaaTalO
namespace Go.Proofs.Ytlcblkmmkphpmaa
open Go.RowKit

/-- The three boxes of TalkAsks. -/
theorem boxes3 (w : World) (T1 T2 T3 : TypeId) (c1 c2 c3 : List Value) : ∃ X, X = ((w.alloc (.cells c1.toArray T1)).alloc (.cells c2.toArray T2)).alloc (.cells c3.toArray T3) ∧ Below w.heap.size w X ∧ BlkAt w.heap.size T1 c1 X ∧ BlkAt (w.heap.size + 1) T2 c2 X ∧ BlkAt (w.heap.size + 1 + 1) T3 c3 X := by
  refine ⟨_, rfl, ?_, ?_, ?_, ?_⟩
  · have a := alloc_below w (.cells c1.toArray T1)
    have b := alloc_below (w.alloc (.cells c1.toArray T1)) (.cells c2.toArray T2)
    have c := alloc_below ((w.alloc (.cells c1.toArray T1)).alloc (.cells c2.toArray T2)) (.cells c3.toArray T3)
    exact (a.trans (b.mono a.size)).trans (c.mono (Nat.le_trans a.size b.size))
  · exact ((BlkAt.alloc_new w c1 T1).grew (alloc_below _ _)).grew (alloc_below _ _)
  · have h := (BlkAt.alloc_new (w.alloc (.cells c1.toArray T1)) c2 T2).grew (alloc_below _ (.cells c3.toArray T3))
    rw [← size1] at h
    exact h
  · have h := BlkAt.alloc_new ((w.alloc (.cells c1.toArray T1)).alloc (.cells c2.toArray T2)) c3 T3
    rw [← size1, ← size1] at h
    exact h
set_option maxRecDepth 100000 in
set_option maxHeartbeats 2000000 in
theorem asks_law (a b : Int) (ha : i64 a) (hb : i64 b) (x : Req) (s1 s2 s3 : Value) (g : Rg) (w : World) (h : RqAt w x s1 s2 s3) (hi : x.int) (hs : x.sz) (gi : g.int) (gs : g.sz) :
    Calls Try.prog 4 #[.agg #[.int .i64 a, .int .i64 b], .agg (rqV x s1 s2 s3).toArray, .agg (rgV g).toArray] w fun e w' => e = .returned (.bool true) ∧ Below w.heap.size w w' := by
  have hF := fun X hX => lfew_any x s1 s2 s3 X hX hs
  have hok := fun hf : fewRq x = true => rq_ok hf hi
  obtain ⟨a1, p1, rfl⟩ := h.h1.form
  obtain ⟨a2, p2, rfl⟩ := h.h2.form
  obtain ⟨a3, p3, rfl⟩ := h.h3.form
  generalize fewRq x = F at *
  obtain ⟨W, hW, hB, k0, k1, k2⟩ := boxes3 w 40 26 28 [.int .i64 a, .int .i64 b] (rqV x (.slice a1 x.cmp.length p1) (.slice a2 x.thn.length p2) (.slice a3 x.els.length p3)) (rgV g)
  have hR := h.grew hB
  have HF := Lib.hid (hF W hR)
  have HB := Lib.hid hB
  have HW := Lib.hid hW
  have HR := Lib.hid hR
  have HA := Lib.hid (fun X => awake_any X)
  have HK0 := Lib.hid k0
  have HK1 := Lib.hid k1
  have HK2 := Lib.hid k2
  have m0 := BlkAt.cell k1 (i := 0) rfl
  have m1 := BlkAt.cell k1 (i := 1) rfl
  have m2 := BlkAt.cell k1 (i := 2) rfl
  have m3 := BlkAt.cell k1 (i := 3) rfl
  have m4 := BlkAt.cell k1 (i := 4) rfl
  have m5 := BlkAt.cell k1 (i := 5) rfl
  have m6 := BlkAt.cell k1 (i := 6) rfl
  have z0 : (bs g.key).size ≤ 9223372036854775807 := by rw [bs_size]; exact gs.1
  have z1 : (bs g.end_).size ≤ 9223372036854775807 := by rw [bs_size]; exact gs.2
  clear hW hB hR h hF k0 k1 k2 gs hs hi
  unfold rqV rgV at *
  go_enter Try.func4, Try.ntmps4
  go_upto_region 1 with (fail)
  rw [← HW.out]
  clear HW
  cases F with
  | false =>
    as_aux_lemma =>
    clear hok
    go_wp2_with (first
      | (go_at_call 14; (with_reducible refine HF.out.mono ?_); rintro e w1 ⟨rfl, hb1⟩; have HB1 := Lib.hid hb1; clear hb1)
      | (go_at_call 10; (with_reducible refine (HA.out _).mono ?_); rintro e w2 ⟨rfl, hb2⟩; have HB2 := Lib.hid hb2; clear hb2))
    go_ret
    exact ⟨rfl, (HB.out.trans (HB1.out.mono HB.out.size)).trans (HB2.out.mono (Nat.le_trans HB.out.size HB1.out.size))⟩
  | true =>
    by_cases g0 : g.key.length ≤ 1000
    · have t0 := big_no g.key g0
      by_cases g1 : g.end_.length ≤ 1000
      · have t1 := big_no g.end_ g1
        obtain ⟨hok1, hlen⟩ := hok rfl
        obtain ⟨hrg, hrl⟩ := rg_ok (x := g) (by unfold fewRg; simp [g0, g1]) gi
        have la := numI_len a ha
        have lb := numI_len b hb
        have l0 := numI_len 0 (by unfold i64; omega)
        have l1 := numI_len 1 (by unfold i64; omega)
        have hd : (askL a b x).length ≤ 140737488355328 := by unfold askL; simp only [List.length_append]; omega
        have hd2 : (readL a b g).length ≤ 140737488355328 := by unfold readL; simp only [List.length_append]; omega
        have H1 := Lib.hid (fun X hX => ask_any a b ha hb x hok1 (.slice a1 x.cmp.length p1) (.slice a2 x.thn.length p2) (.slice a3 x.els.length p3) hd X hX)
        have H2 := Lib.hid (fun X hX => refask_any a b ha hb x hok1 (.slice a1 x.cmp.length p1) (.slice a2 x.thn.length p2) (.slice a3 x.els.length p3) hd X hX)
        have H3 := Lib.hid (fun X => read_any a b ha hb g hrg hd2 X)
        have H4 := Lib.hid (fun X => refread_any a b ha hb g hrg hd2 X)
        unfold rqV at H1 H2
        unfold rgV at H3 H4
        clear hok hok1 hlen hrg hrl la lb l0 l1 hd hd2 ha hb gi
        generalize askL a b x = P at *
        generalize readL a b g = Q at *
        go_upto_region 3 with (go_at_call 14; (with_reducible refine HF.out.mono ?_); rintro e w1 ⟨rfl, hb1⟩; have HB1 := Lib.hid hb1; have y0 := BlkAt.cell (HK2.out.grew hb1) (i := 0) rfl; have y1 := BlkAt.cell (HK2.out.grew hb1) (i := 1) rfl; clear hb1)
        have n0 := BlkAt.cell (HK0.out.grew HB1.out) (i := 0) rfl
        have n1 := BlkAt.cell (HK0.out.grew HB1.out) (i := 1) rfl
        have HK1' := Lib.hid (HK1.out.grew HB1.out)
        have HK2' := Lib.hid (HK2.out.grew HB1.out)
        have HR' := Lib.hid (HR.out.grew HB1.out)
        have H1' := Lib.hid (fun X (hX : Grew w1 X) => H1.out X (HR'.out.grew hX))
        have H2' := Lib.hid (fun X (hX : Grew w1 X) => H2.out X (HR'.out.grew hX))
        have hex := Grew.all w1
        refine wp_region_grew (by kernel_rfl) (by kernel_rfl) ?_
        repeat (first | go_big_quiet_skip | (go_big_quiet_want; first | (refine quiet_load_cell _ _ rfl ⟨w.heap.size, 0, none⟩ rfl _ _ Try.underlying3 rfl (fun W hW => Grew.cell hW n0) ?_; simp only [Act.put, List.setIfInBounds_toArray, List.set_cons_succ, List.set_cons_zero]; go_big_quiet_on) | (refine quiet_load_cell _ _ rfl ⟨w.heap.size, 1, none⟩ rfl _ _ Try.underlying3 rfl (fun W hW => Grew.cell hW n1) ?_; simp only [Act.put, List.setIfInBounds_toArray, List.set_cons_succ, List.set_cons_zero]; go_big_quiet_on) | (refine quiet_load_mid 26 _ rfl (w.heap.size + 1) 0 rfl [.int .i64 x.kind, .slice a1 x.cmp.length p1, .slice a2 x.thn.length p2, .slice a3 x.els.length p3, .int .i64 x.rev, .int .i64 x.lease, .int .i64 x.ticks] _ (fun W hW => (HK1'.out.grew hW).range 0 _ (fun j hj => by rw [Nat.zero_add])) Try.underlying26 rfl (by kernel_rfl) ?_; simp only [Act.put, List.setIfInBounds_toArray, List.set_cons_succ, List.set_cons_zero]; go_big_quiet_on) | (refine quiet_load_mid 28 _ rfl (w.heap.size + 1 + 1) 0 rfl [.string (bs g.key), .string (bs g.end_), .int .i64 g.rev, .int .i64 g.limit, .bool g.keys, .bool g.count, .bool g.desc] _ (fun W hW => (HK2'.out.grew hW).range 0 _ (fun j hj => by rw [Nat.zero_add])) Try.underlying28 rfl (by kernel_rfl) ?_; simp only [Act.put, List.setIfInBounds_toArray, List.set_cons_succ, List.set_cons_zero]; go_big_quiet_on) | (go_big_quiet_op; first | go_big_quiet_on | (apply Exists.intro; refine ⟨fun W hW => ?_, ?_⟩; (first | exact rfl | (go_at_call 15; with_reducible exact Calls.grew hW (H1'.out _ hW)) | (go_at_call 16; with_reducible exact Calls.grew hW (H2'.out _ hW)) | (go_at_call 17; with_reducible exact Calls.grew hW (H3.out _)) | (go_at_call 18; with_reducible exact Calls.grew hW (H4.out _)) | (go_at_call 10; with_reducible exact Calls.grew hW (HA.out _))); go_big_quiet_on))))
        refine wpQuiet_nil ?_
        intro w3 hw3
        have hb3 : Below w1.heap.size w1 w3 := hw3
        clear hex
        go_wp2
        go_ret
        exact ⟨rfl, (HB.out.trans (HB1.out.mono HB.out.size)).trans (hb3.mono (Nat.le_trans HB.out.size HB1.out.size))⟩
      · as_aux_lemma =>
        have t1 := big_yes g.end_ g1
        clear hok
        go_wp2_with (first
          | (go_at_call 14; (with_reducible refine HF.out.mono ?_); rintro e w1 ⟨rfl, hb1⟩; have HB1 := Lib.hid hb1; have y0 := BlkAt.cell (HK2.out.grew hb1) (i := 0) rfl; have y1 := BlkAt.cell (HK2.out.grew hb1) (i := 1) rfl; clear hb1)
          | (go_at_call 10; (with_reducible refine (HA.out _).mono ?_); rintro e w2 ⟨rfl, hb2⟩; have HB2 := Lib.hid hb2; clear hb2))
        go_ret
        exact ⟨rfl, (HB.out.trans (HB1.out.mono HB.out.size)).trans (HB2.out.mono (Nat.le_trans HB.out.size HB1.out.size))⟩
    · as_aux_lemma =>
      have t0 := big_yes g.key g0
      clear hok
      go_wp2_with (first
        | (go_at_call 14; (with_reducible refine HF.out.mono ?_); rintro e w1 ⟨rfl, hb1⟩; have HB1 := Lib.hid hb1; have y0 := BlkAt.cell (HK2.out.grew hb1) (i := 0) rfl; have y1 := BlkAt.cell (HK2.out.grew hb1) (i := 1) rfl; clear hb1)
        | (go_at_call 10; (with_reducible refine (HA.out _).mono ?_); rintro e w2 ⟨rfl, hb2⟩; have HB2 := Lib.hid hb2; clear hb2))
      go_ret
      exact ⟨rfl, (HB.out.trans (HB1.out.mono HB.out.size)).trans (HB2.out.mono (Nat.le_trans HB.out.size HB1.out.size))⟩
/-- THE LAW TalkAsks. -/
theorem talkAsks_walk (W : World) (v0 v1 v2 : Value) (h0 : IsWho v0) (h1 : IsReq W v1) (h2 : IsRg v2) :
    Calls Try.prog 4 #[v0, v1, v2] W fun e w' => e = .returned (.bool true) ∧ Below W.heap.size W w' := by
  obtain ⟨a, b, rfl, ha, hb⟩ := h0
  obtain ⟨y, s1, s2, s3, rfl, hR, hi, hs⟩ := h1
  obtain ⟨g, rfl, gi, gs⟩ := h2
  exact asks_law a b ha hb y s1 s2 s3 g W hR hi hs gi gs
end Go.Proofs.Ytlcblkmmkphpmaa
