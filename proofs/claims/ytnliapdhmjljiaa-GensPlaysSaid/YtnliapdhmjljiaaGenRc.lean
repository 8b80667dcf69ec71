/- The reference's Put and Tombstone. Conditions: as each theorem says. -/
import Derived.Test.YtnliapdhmjljiaaGenRb
namespace Go.Proofs.Ytnliapdhmjljiaa
open Go.RowKit

theorem results_cell2 {fn : Func} {s u : Tmp} {T : TypeId} (h : fn.results = #[.cell s T, .tmp u]) (tmps : Array Value) (P : Program) (w : World) (p : Addr) (v x : Value) (hp : tmps.getD s undef = .pointer (some p)) (hu : tmps.getD u undef = x) (hl : (loadVar T p).run P w = .ok v w) :
    (results fn tmps).run P w = .ok (.tuple #[v, x]) w := by
  have hp' : tmps[s]?.getD undef = .pointer (some p) := by simpa using hp
  have hu' : tmps[u]?.getD undef = x := by simpa using hu
  unfold results
  simp [h, asAddr, hp', hu', hl]
def RefSaid (base : Nat) (w : World) (u : Value) (r : Rk) (n : Int) (e : Ending) (w' : World) : Prop := ∃ v, e = .returned (.tuple #[.agg #[v, .int .i64 r.last], .int .i64 n]) ∧ GrowR base v r.L w' ∧ (∀ g, v.ownBlock = some g → v = u ∨ w.heap.size ≤ g) ∧ Below w.heap.size w w'
/-- The blocks that a call of the reference lays first: the key's box, the result's cell. -/
theorem ref_blocks (u : Value) (last : Int) (w : World) : BlkAt w.heap.size RkT [u, .int .i64 last] ((w.alloc (.cells #[u, .int .i64 last] RkT)).alloc (.cells #[.slice none 0 0, .int .i64 0] RkT)) ∧ BlkAt (w.heap.size + 1) RkT [.slice none 0 0, .int .i64 0] ((w.alloc (.cells #[u, .int .i64 last] RkT)).alloc (.cells #[.slice none 0 0, .int .i64 0] RkT)) ∧ Below w.heap.size w ((w.alloc (.cells #[u, .int .i64 last] RkT)).alloc (.cells #[.slice none 0 0, .int .i64 0] RkT)) := by
  have hb0 := alloc_below w (.cells #[u, .int .i64 last] RkT)
  have hk0 := BlkAt.alloc_new w [u, .int .i64 last] RkT
  have hb1 := alloc_below (w.alloc (.cells #[u, .int .i64 last] RkT)) (.cells #[.slice none 0 0, .int .i64 0] RkT)
  have hk1 := BlkAt.alloc_new (w.alloc (.cells #[u, .int .i64 last] RkT)) [.slice none 0 0, .int .i64 0] RkT
  simp only [World.size_alloc] at hk1
  exact ⟨hk0.grew hb1, hk1, hb0.trans (hb1.mono hb0.size)⟩
/-- The result stored: what the call answers. -/
theorem ref_done {base : Nat} {w W : World} {L : List Ch} {v : Value} {last : Int} (hG : GrowR base v L W) (hb : base ≤ w.heap.size) (hB : Below w.heap.size w W) (k : BlkAt (w.heap.size + 1) RkT [.slice none 0 0, .int .i64 0] W) (hv : ∀ g, v.ownBlock = some g → g ≠ w.heap.size + 1) :
    BlkAt (w.heap.size + 1) RkT [v, .int .i64 last] ((W.setCell ⟨w.heap.size + 1, 0, none⟩ v).setCell ⟨w.heap.size + 1, 1, none⟩ (.int .i64 last)) ∧ GrowR base v L ((W.setCell ⟨w.heap.size + 1, 0, none⟩ v).setCell ⟨w.heap.size + 1, 1, none⟩ (.int .i64 last)) ∧ Below w.heap.size w ((W.setCell ⟨w.heap.size + 1, 0, none⟩ v).setCell ⟨w.heap.size + 1, 1, none⟩ (.int .i64 last)) := by
  refine ⟨(k.set 0 v).set 1 (.int .i64 last), ?_, below_set (below_set hB (by omega) 0 _) (by omega) 1 _⟩
  exact World.ownsRow.kept (World.ownsRow.kept hG (grown_set W _ 0 v) (Or.inr (fun e => hv _ e rfl))) (grown_set _ _ 1 _) (Or.inr (fun e => hv _ e rfl))
/-- A row of changes lies in no key's cell. -/
theorem ref_other {base g : Nat} {cs : List Value} {v : Value} {L : List Ch} {W : World} (hG : GrowR base v L W) (k : BlkAt g RkT cs W) : ∀ b, v.ownBlock = some b → b ≠ g := by
  intro b hb e
  subst e
  rcases hG.2 with ⟨rfl, _⟩ | ⟨g', cap, cur, rfl, _, hh, _⟩
  · simp [Value.ownBlock] at hb
  · simp only [Value.ownBlock, Option.some.injEq] at hb
    subst hb
    unfold BlkAt at k
    rw [hh] at k
    simp only [Option.some.injEq, Obj.cells.injEq] at k
    exact absurd k.2.1 (by decide)
set_option maxRecDepth 100000 in
set_option maxHeartbeats 1000000 in
theorem refPut_any (base : Nat) (r : Rk) (rev : Int) (u : Value) (w : World) (h : GrowR base u r.L w) (ha : ascC 0 r.L) (hl : r.L.length ≤ 100000) (hver : 0 ≤ (atR r.L rev).ver ∧ (atR r.L rev).ver ≤ 100000) (hbase : base ≤ w.heap.size) :
    Calls Try.prog 13 #[.agg #[u, .int .i64 r.last], .int .i64 rev] w (RefSaid base w u (putR r rev).1 (putR r rev).2) := by
  obtain ⟨a, cap, rfl⟩ := h.slice
  obtain ⟨k0, k4, kb⟩ := ref_blocks (.slice a r.L.length cap) r.last w
  have HW := Lib.hid (fun W => refwrong_any (.slice a r.L.length cap) r.last rev W)
  have HA := Lib.hid (fun W (hW : Below w.heap.size w W) => refAt_any r.L r.last rev _ W ((h.below hW).rows ref_len) ha (by omega))
  have HWi := Lib.hid (fun c W (hW : Below w.heap.size w W) => with_any base r.L r.last _ c W (h.below hW) hl (by have := hW.size; omega))
  have HG := Lib.hid h
  unfold refV at HA
  by_cases hw : wrongB r.last rev = true
  · have hp : putR r rev = (r, 1) := by unfold putR; rw [if_pos hw]
    rw [hp]
    rw [hw] at HW
    have K0 := Lib.hid k0
    have K4 := Lib.hid k4
    have KB := Lib.hid kb
    clear h ha hl hver hp hw k0 k4 kb
    obtain ⟨L, last⟩ := r
    simp only at *
    go_enter Try.func13, Try.ntmps13
    have y0 := K0.out.cell (i := 0) rfl
    have y1 := K0.out.cell (i := 1) rfl
    go_wp2_with (go_at_call 26; (with_reducible refine (HW.out _).mono ?_); rintro e w1 ⟨rfl, b1⟩; have y0 := Grew.cell b1 y0; have y1 := Grew.cell b1 y1; have m4 := K4.out.grew b1; have z0 := m4.cell (i := 0) rfl; have z1 := m4.cell (i := 1) rfl; have f0 := m4.frozen 0; have f1 := m4.frozen 1; have mb := KB.out.trans (b1.mono KB.out.size); obtain ⟨hM, hF1, hF2⟩ := ref_done (last := last) (HG.out.below mb) hbase mb m4 (ref_other (HG.out.below mb) m4); clear b1)
    have hld := run_load_blk (P := Try.prog) hM _ Try.underlying27 rfl (by kernel_rfl)
    exact bodyPost_ret (v := .tuple #[.agg #[.slice a L.length cap, .int .i64 last], .int .i64 1]) (results_cell2 Try.results13 _ _ _ ⟨w.heap.size + 1, 0, none⟩ _ _ (by rfl) (by rfl) hld) rfl ⟨_, rfl, hF1, fun g hg => .inl rfl, hF2⟩
  · have hp : putR r rev = (⟨r.L ++ [⟨rev, if (atR r.L rev).rev = 0 then rev else (atR r.L rev).cr, (atR r.L rev).ver + 1, false⟩], rev⟩, 0) := by unfold putR; rw [if_neg hw]
    rw [hp]
    rw [Bool.not_eq_true] at hw
    rw [hw] at HW
    have K0 := Lib.hid k0
    have K4 := Lib.hid k4
    have KB := Lib.hid kb
    clear h ha hl hp hw k0 k4 kb
    obtain ⟨L, last⟩ := r
    simp only at *
    generalize atR L rev = ch at *
    obtain ⟨crev, ccr, cver, cg⟩ := ch
    simp only at *
    obtain ⟨hv1, hv2⟩ := hver
    by_cases hz : crev = 0
    · subst hz
      rw [if_pos rfl]
      have HWc := Lib.hid (HWi.out ⟨rev, rev, cver + 1, false⟩)
      go_enter Try.func13, Try.ntmps13
      have y0 := K0.out.cell (i := 0) rfl
      have y1 := K0.out.cell (i := 1) rfl
      go_wp2_with (
        first
        | (go_at_call 26; (with_reducible refine (HW.out _).mono ?_); rintro e w1 ⟨rfl, b1⟩; have y0 := Grew.cell b1 y0; have y1 := Grew.cell b1 y1; have mb := KB.out.trans (b1.mono KB.out.size); have m4 := K4.out.grew b1; clear b1)
        | (go_at_call 17; (with_reducible refine (HA.out _ mb).mono ?_); rintro e w2 ⟨rfl, b2⟩; have y0 := Grew.cell b2 y0; have y1 := Grew.cell b2 y1; have mb := mb.trans (b2.mono mb.size); have m4 := m4.grew b2; have hlt2 := m4.lt; clear b2;
           have m6 := BlkAt.alloc_new w2 [.int .i64 0, .int .i64 ccr, .int .i64 cver, .bool cg] RefT; have b6 := alloc_below w2 (.cells #[.int .i64 0, .int .i64 ccr, .int .i64 cver, .bool cg] RefT); have q0 := m6.cell (i := 0) rfl; have q1 := m6.cell (i := 1) rfl; have q2 := m6.cell (i := 2) rfl;
           have m7 := BlkAt.alloc_new (w2.alloc (.cells #[.int .i64 0, .int .i64 ccr, .int .i64 cver, .bool cg] RefT)) [.int .i64 rev, .int .i64 rev, .int .i64 (cver + 1), .bool false] RefT; have b7 := alloc_below (w2.alloc (.cells #[.int .i64 0, .int .i64 ccr, .int .i64 cver, .bool cg] RefT)) (.cells #[.int .i64 rev, .int .i64 rev, .int .i64 (cver + 1), .bool false] RefT);
           have mb := mb.trans ((b6.trans (b7.mono b6.size)).mono mb.size); have m4 := (m4.grew b6).grew b7; have y0 := Grew.cell b7 (Grew.cell b6 y0); have y1 := Grew.cell b7 (Grew.cell b6 y1); have r0 := m7.cell (i := 0) rfl; have r1 := m7.cell (i := 1) rfl; have r2 := m7.cell (i := 2) rfl; have r3 := m7.cell (i := 3) rfl; have f1 := m7.frozen 1; simp only [World.size_alloc] at r0 r1 r2 r3 f1 q0 q1 q2)
        | (go_at_call 27; (with_reducible refine (HWc.out _ mb).mono ?_); rintro e w3 ⟨v3, rfl, hG3, b3⟩; obtain ⟨a3, c3, rfl⟩ := hG3.slice; have hfr := fun g hg => Nat.le_trans mb.size (own_base hG3 g hg); have hG3 : GrowR base _ _ _ := hG3.mono (Nat.le_trans hbase mb.size); have m4 := m4.grew b3; have mb := mb.trans (b3.mono mb.size); have z0 := m4.cell (i := 0) rfl; have z1 := m4.cell (i := 1) rfl; have f0 := m4.frozen 0; have f1 := m4.frozen 1; obtain ⟨hM, hF1, hF2⟩ := ref_done (last := rev) hG3 hbase mb m4 (ref_other hG3 m4); clear b3))
      have hld := run_load_blk (P := Try.prog) hM _ Try.underlying27 rfl (by kernel_rfl)
      simp only [List.length_append, List.length_cons, List.length_nil, Nat.zero_add] at hM hF1 hF2 hld hfr
      exact bodyPost_ret (v := .tuple #[.agg #[.slice a3 (L.length + 1) c3, .int .i64 rev], .int .i64 0]) (results_cell2 Try.results13 _ _ _ ⟨w.heap.size + 1, 0, none⟩ _ _ (by rfl) (by rfl) hld) rfl ⟨_, rfl, hF1, fun g hg => .inr (hfr g hg), hF2⟩
    · have dz : (crev == 0) = false := by rw [beq_eq_false_iff_ne]; exact hz
      rw [if_neg hz]
      clear hz
      have HWc := Lib.hid (HWi.out ⟨rev, ccr, cver + 1, false⟩)
      go_enter Try.func13, Try.ntmps13
      have y0 := K0.out.cell (i := 0) rfl
      have y1 := K0.out.cell (i := 1) rfl
      go_wp2_with (
        first
        | (go_at_call 26; (with_reducible refine (HW.out _).mono ?_); rintro e w1 ⟨rfl, b1⟩; have y0 := Grew.cell b1 y0; have y1 := Grew.cell b1 y1; have mb := KB.out.trans (b1.mono KB.out.size); have m4 := K4.out.grew b1; clear b1)
        | (go_at_call 17; (with_reducible refine (HA.out _ mb).mono ?_); rintro e w2 ⟨rfl, b2⟩; have y0 := Grew.cell b2 y0; have y1 := Grew.cell b2 y1; have mb := mb.trans (b2.mono mb.size); have m4 := m4.grew b2; have hlt2 := m4.lt; clear b2;
           have m6 := BlkAt.alloc_new w2 [.int .i64 crev, .int .i64 ccr, .int .i64 cver, .bool cg] RefT; have b6 := alloc_below w2 (.cells #[.int .i64 crev, .int .i64 ccr, .int .i64 cver, .bool cg] RefT); have q0 := m6.cell (i := 0) rfl; have q1 := m6.cell (i := 1) rfl; have q2 := m6.cell (i := 2) rfl;
           have m7 := BlkAt.alloc_new (w2.alloc (.cells #[.int .i64 crev, .int .i64 ccr, .int .i64 cver, .bool cg] RefT)) [.int .i64 rev, .int .i64 ccr, .int .i64 (cver + 1), .bool false] RefT; have b7 := alloc_below (w2.alloc (.cells #[.int .i64 crev, .int .i64 ccr, .int .i64 cver, .bool cg] RefT)) (.cells #[.int .i64 rev, .int .i64 ccr, .int .i64 (cver + 1), .bool false] RefT);
           have mb := mb.trans ((b6.trans (b7.mono b6.size)).mono mb.size); have m4 := (m4.grew b6).grew b7; have y0 := Grew.cell b7 (Grew.cell b6 y0); have y1 := Grew.cell b7 (Grew.cell b6 y1); have r0 := m7.cell (i := 0) rfl; have r1 := m7.cell (i := 1) rfl; have r2 := m7.cell (i := 2) rfl; have r3 := m7.cell (i := 3) rfl; have f1 := m7.frozen 1; simp only [World.size_alloc] at r0 r1 r2 r3 f1 q0 q1 q2)
        | (go_at_call 27; (with_reducible refine (HWc.out _ mb).mono ?_); rintro e w3 ⟨v3, rfl, hG3, b3⟩; obtain ⟨a3, c3, rfl⟩ := hG3.slice; have hfr := fun g hg => Nat.le_trans mb.size (own_base hG3 g hg); have hG3 : GrowR base _ _ _ := hG3.mono (Nat.le_trans hbase mb.size); have m4 := m4.grew b3; have mb := mb.trans (b3.mono mb.size); have z0 := m4.cell (i := 0) rfl; have z1 := m4.cell (i := 1) rfl; have f0 := m4.frozen 0; have f1 := m4.frozen 1; obtain ⟨hM, hF1, hF2⟩ := ref_done (last := rev) hG3 hbase mb m4 (ref_other hG3 m4); clear b3))
      have hld := run_load_blk (P := Try.prog) hM _ Try.underlying27 rfl (by kernel_rfl)
      simp only [List.length_append, List.length_cons, List.length_nil, Nat.zero_add] at hM hF1 hF2 hld hfr
      exact bodyPost_ret (v := .tuple #[.agg #[.slice a3 (L.length + 1) c3, .int .i64 rev], .int .i64 0]) (results_cell2 Try.results13 _ _ _ ⟨w.heap.size + 1, 0, none⟩ _ _ (by rfl) (by rfl) hld) rfl ⟨_, rfl, hF1, fun g hg => .inr (hfr g hg), hF2⟩
end Go.Proofs.Ytnliapdhmjljiaa
