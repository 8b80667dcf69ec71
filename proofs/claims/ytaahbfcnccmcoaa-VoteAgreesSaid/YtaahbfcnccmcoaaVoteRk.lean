/- The walk of what the reference's Take heeds: a vote of an old round. Conditions: as each theorem says. -/
import Derived.Test.YtaahbfcnccmcoaaVoteRj
namespace Go.Proofs.Ytaahbfcnccmcoaa
open Go.RowKit

theorem st_done {F : Nat → Prop} {g : Nat} {r : Rp} {bt bw bs bh : Nat} {w x : World} (h : RpAt F g r bt bw (sl bs r.nodes) (sl bh r.nodes) x) (hB : Below w.heap.size w x) (f : Nat) (s : Int) (v : Value) : RDone F g (setSt r f s) v w (.returned v) (x.setCell ⟨bs, f, none⟩ (.int .i64 s)) := by
  obtain ⟨hne, hsF, hhF, hbs, hbh⟩ := h.states
  have k := h.setState f s
  have hA : Apart F w (x.setCell ⟨bs, f, none⟩ (.int .i64 s)) := (Apart.of_below (F := F) hB).trans (Apart.of_grown (F := F) (grown_set x bs f _) (fun k hk => .inl (by rw [← Option.some.inj hk]; exact hsF))) (fun i hi => .inl hi)
  refine ⟨rfl, ⟨bt, bw, bs, bh, k.mono (fun i hi => .inl hi) (fun i hi => ?_)⟩, hA⟩
  rcases hi with hi | hi
  · exact k.lt i hi
  · exact hi.2
section
variable {F : Nat → Prop} {g : Nat} {r : Rp} {w : World}
set_option maxRecDepth 100000 in
set_option maxHeartbeats 800000 in
theorem rtake_old (h : RpIn F g r w) (hf : r.fit) (f : Nat) (b : Bal) (n : Int) (q : okR r f ⟨b, n, 1⟩) (hr : n < r.round) : Calls Try.prog 34 #[ptrV g, .int .i64 (f : Int), msgV ⟨b, n, 1⟩] w (RDone F g (setSt r f 0) (.int .i64 1) w) := by
  obtain ⟨bt, bw, bs, bh, h⟩ := h
  have hf7 := hf.n7
  have hfs := hf.state
  have hfh := hf.whom
  have hft := hf.told
  have hfw := hf.what
  unfold okR at q
  simp only at q
  obtain ⟨q0, q1, q2, q3, q4, q5, q6, q7, q8, q9, q10⟩ := q
  have hB0 : Hid (∀ m, Below w.heap.size w ((w.alloc (.cells (msgCells ⟨b, n, 1⟩).toArray MgT)).drewN m)) := Lib.hid (fun m => below_drewN (alloc_below w _) m)
  have hX0 : Hid (∀ m, BlkAt w.heap.size MgT (msgCells ⟨b, n, 1⟩) ((w.alloc (.cells (msgCells ⟨b, n, 1⟩).toArray MgT)).drewN m)) := Lib.hid (fun m => BlkAt.alloc_new w _ _)
  have hS0 : Hid (∀ m, ((w.alloc (.cells (msgCells ⟨b, n, 1⟩).toArray MgT)).drewN m).heap.size = w.heap.size + 1) := Lib.hid (fun m => by simp [World.drewN])
  have HR := Lib.hid h
  have h0 := h.head
  have hlt : g < w.heap.size := h0.lt
  have c0 := h0.cell (i := 0) (v := .int .i64 r.me) rfl
  have c1 := h0.cell (i := 1) (v := .int .i64 r.nodes) rfl
  have z0 := decide_eq_false q0
  have z1 := decide_eq_false q1
  have z2 : ((f : Int) == (r.me : Int)) = false := by simpa using q2
  have z1n : decide (r.nodes ≤ f) = false := decide_eq_false (by omega)
  have hne : f ≠ r.me := by omega
  have z2n : (f == r.me) = false := by simpa using hne
  have z2m : decide (f = r.me) = false := decide_eq_false hne
  have z3 := decide_eq_false q3
  have z4 := decide_eq_false q4
  have z5 := decide_eq_false q5
  have z6 := decide_eq_false q6
  have z7 := decide_eq_false q7
  have z8 := decide_eq_false q8
  have z9 := decide_eq_false q9
  have z10 := decide_eq_false q10
  clear h h0 q2 hne
  unfold msgCells at hB0 hX0 hS0
  unfold ptrV msgV
  simp only at hB0 hX0 hS0 ⊢
  go_enter Try.func34, Try.ntmps34
  go_wp2_with (fail)
  go_quiet (fail)
  have hB := hB0.out nq
  have hX := hX0.out nq
  have hS := hS0.out nq
  clear hB0 hX0 hS0 c0 c1
  generalize World.drewN _ nq = x at *
  have x1 := hX.cell (i := 1) (v := .int .i64 b.l) rfl
  have x2 := hX.cell (i := 2) (v := .int .i64 b.e) rfl
  have x3 := hX.cell (i := 3) (v := .int .i64 b.c) rfl
  have x4 := hX.cell (i := 4) (v := .int .i64 b.p) rfl
  have x8 := hX.cell (i := 8) (v := .int .i64 n) rfl
  have x9 := hX.cell (i := 9) (v := .int .i64 1) rfl
  have hRx := HR.out.grew hB
  have k1 := hRx.head.cell (i := 1) (v := .int .i64 r.nodes) rfl
  have k6 := hRx.head.cell (i := 6) (v := .int .i64 r.round) rfl
  have k11 := hRx.head.cell (i := 11) (v := sl bt r.nodes) rfl
  have k12 := hRx.head.cell (i := 12) (v := sl bw r.nodes) rfl
  have k13 := hRx.head.cell (i := 13) (v := sl bs r.nodes) rfl
  have k14 := hRx.head.cell (i := 14) (v := sl bh r.nodes) rfl
  have hfn : f < r.nodes := by omega
  obtain ⟨hne, hsF, hhF, hbs, hbh⟩ := hRx.states
  have s0 := hbs.cell (ints_get r.state f (by omega))
  have s1 := hbh.cell (ints_get r.whom f (by omega))
  have fs : ∀ i, x.frozen? ⟨bs, i, none⟩ = false := hbs.frozen
  have fh : ∀ i, x.frozen? ⟨bh, i, none⟩ = false := hbh.frozen
  have ngs : g ≠ bs := blk_other hRx.head hbs (by decide)
  have ngh : g ≠ bh := blk_other hRx.head hbh (by decide)
  have nxs : w.heap.size ≠ bs := blk_other hX hbs (by decide)
  have nxh : w.heap.size ≠ bh := blk_other hX hbh (by decide)
  have hbl := hbs.lt
  have hhl := hbh.lt
  have hgl := hRx.head.lt
  have HRx := Lib.hid hRx
  have HBx := Lib.hid hB
  have HX := Lib.hid hX
  have HBs := Lib.hid hbs
  have HBh := Lib.hid hbh
  clear hB hX hRx hbs hbh hsF hhF
  unfold sl at k11 k12 k13 k14
  generalize hBe : w.heap.size = B at *
  have HBe := Lib.hid hBe
  clear hBe
  have zr : decide (n < r.round) = true := decide_eq_true hr
  go_wp2_with (fail)
  go_region
  go_wp2_with (fail)
  go_ret
  refine RDone.drew ?_
  exact st_done HRx.out (by rw [HBe.out]; exact HBx.out) f 0 _
end
end Go.Proofs.Ytaahbfcnccmcoaa
