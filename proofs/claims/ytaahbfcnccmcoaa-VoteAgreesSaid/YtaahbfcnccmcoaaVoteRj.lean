/- The walk of what the reference's Take heeds: a decided one. Conditions: as each theorem says. -/
import Derived.Test.YtaahbfcnccmcoaaVoteRi
namespace Go.Proofs.Ytaahbfcnccmcoaa
open Go.RowKit

abbrev MgT : TypeId := 68
def msgCells (v : Vot) : List Value := [.int .i64 1, .int .i64 v.b.l, .int .i64 v.b.e, .int .i64 v.b.c, .int .i64 v.b.p, .int .i64 0, .int .i64 0, .int .i64 0, .int .i64 v.round, .int .i64 v.state, .int .i64 0, .string ⟨#[]⟩, .slice none 0 0, .bool false, .int .i64 0, .int .i64 0, .int .i64 0]
def setSt (r : Rp) (f : Nat) (s : Int) : Rp := { r with state := r.state.set f s }
def setWh (r : Rp) (f : Nat) (l : Int) : Rp := { r with whom := r.whom.set f l }
def tellR (r : Rp) (f : Nat) (b : Bal) : Rp := { r with told := r.told.set f true, what := r.what.set f b }
theorem RpAt.grew {F : Nat → Prop} {g : Nat} {r : Rp} {bt bw : Nat} {vs vh : Value} {w x : World} (h : RpAt F g r bt bw vs vh w) (hb : Below w.heap.size w x) : RpAt F g r bt bw vs vh x :=
  ⟨h.head.grew hb, h.told.grew hb, h.what.grew hb, h.st.apart (Apart.of_below (F := fun _ => False) hb) (fun _ _ _ _ h => h), h.fg, h.ft, h.fw, fun i hi => Nat.lt_of_lt_of_le (h.lt i hi) hb.size⟩
theorem RpAt.states {F : Nat → Prop} {g : Nat} {r : Rp} {bt bw bs bh : Nat} {w : World} (h : RpAt F g r bt bw (sl bs r.nodes) (sl bh r.nodes) w) : bs ≠ bh ∧ F bs ∧ F bh ∧ BlkAt bs InT (ints r.state) w ∧ BlkAt bh InT (ints r.whom) w := by
  rcases h.st with ⟨e, _⟩ | ⟨bs', bh', e1, e2, h3, h4, h5, h6, h7⟩
  · exact absurd e (by simp [sl])
  · simp only [sl, Value.slice.injEq, Option.some.injEq, Addr.mk.injEq, and_true] at e1 e2
    subst e1 e2
    exact ⟨h3, h4, h5, h6, h7⟩
theorem RDone.drew {F : Nat → Prop} {g : Nat} {r : Rp} {v : Value} {w : World} {e : Ending} {x : World} (h : RDone F g r v w e x) : RDone F g r v w e x.drew := by
  obtain ⟨h1, ⟨bt, bw, bs, bh, h2⟩, h3⟩ := h
  refine ⟨h1, ⟨bt, bw, bs, bh, h2.head, h2.told, h2.what, ?_, h2.fg, h2.ft, h2.fw, h2.lt⟩, ⟨h3.os, h3.tape, h3.output, h3.size, h3.block⟩⟩
  rcases h2.st with e | ⟨b1, b2, h4, h5, h6, h7, h8, h9, h10⟩
  · exact .inl e
  · exact .inr ⟨b1, b2, h4, h5, h6, h7, h8, h9, h10⟩
/-- The states of a node stored. -/
theorem RpAt.setState {F : Nat → Prop} {g : Nat} {r : Rp} {bt bw bs bh : Nat} {x : World} (h : RpAt F g r bt bw (sl bs r.nodes) (sl bh r.nodes) x) (f : Nat) (s : Int) : RpAt F g (setSt r f s) bt bw (sl bs r.nodes) (sl bh r.nodes) (x.setCell ⟨bs, f, none⟩ (.int .i64 s)) := by
  obtain ⟨hne, hsF, hhF, hbs, hbh⟩ := h.states
  have hg := grown_set x bs f (.int .i64 s)
  have k := hbs.set f (.int .i64 s)
  rw [ints_set] at k
  refine ⟨h.head.grown hg (fun e => blk_other h.head hbs (by decide) (Option.some.inj e)), h.told.grown hg (fun e => blk_other h.told hbs (by decide) (Option.some.inj e)), h.what.grown hg (fun e => blk_other h.what hbs (by decide) (Option.some.inj e)), .inr ⟨bs, bh, rfl, rfl, hne, hsF, hhF, k, hbh.grown hg (fun e => hne (Option.some.inj e).symm)⟩, h.fg, h.ft, h.fw, fun i hi => Nat.lt_of_lt_of_le (h.lt i hi) hg.size⟩
theorem RpAt.setWhom {F : Nat → Prop} {g : Nat} {r : Rp} {bt bw bs bh : Nat} {x : World} (h : RpAt F g r bt bw (sl bs r.nodes) (sl bh r.nodes) x) (f : Nat) (s : Int) : RpAt F g (setWh r f s) bt bw (sl bs r.nodes) (sl bh r.nodes) (x.setCell ⟨bh, f, none⟩ (.int .i64 s)) := by
  obtain ⟨hne, hsF, hhF, hbs, hbh⟩ := h.states
  have hg := grown_set x bh f (.int .i64 s)
  have k := hbh.set f (.int .i64 s)
  rw [ints_set] at k
  refine ⟨h.head.grown hg (fun e => blk_other h.head hbh (by decide) (Option.some.inj e)), h.told.grown hg (fun e => blk_other h.told hbh (by decide) (Option.some.inj e)), h.what.grown hg (fun e => blk_other h.what hbh (by decide) (Option.some.inj e)), .inr ⟨bs, bh, rfl, rfl, hne, hsF, hhF, hbs.grown hg (fun e => hne (Option.some.inj e)), k⟩, h.fg, h.ft, h.fw, fun i hi => Nat.lt_of_lt_of_le (h.lt i hi) hg.size⟩
theorem dec_done {F : Nat → Prop} {g : Nat} {r : Rp} {bt bw bs bh : Nat} {w x : World} (h : RpAt F g r bt bw (sl bs r.nodes) (sl bh r.nodes) x) (hB : Below w.heap.size w x) {f : Nat} (hfn : f < r.nodes) (hf : r.fit) (s l : Int) : RDone F g (setWh (setSt r f s) f l) (.int .i64 0) w (.returned (.int .i64 0)) ((x.setCell ⟨bs, f, none⟩ (.int .i64 s)).setCell ⟨bh, f, none⟩ (.int .i64 l)) := by
  obtain ⟨hne, hsF, hhF, hbs, hbh⟩ := h.states
  have k := (h.setState f s).setWhom f l
  have hA : Apart F w ((x.setCell ⟨bs, f, none⟩ (.int .i64 s)).setCell ⟨bh, f, none⟩ (.int .i64 l)) := ((Apart.of_below (F := F) hB).trans (Apart.of_grown (F := F) (grown_set x bs f _) (fun k hk => .inl (by rw [← Option.some.inj hk]; exact hsF))) (fun i hi => .inl hi)).trans (Apart.of_grown (F := F) (grown_set _ bh f _) (fun k hk => .inl (by rw [← Option.some.inj hk]; exact hhF))) (fun i hi => .inl hi)
  refine ⟨rfl, ⟨bt, bw, bs, bh, k.mono (fun i hi => .inl hi) (fun i hi => ?_)⟩, hA⟩
  rcases hi with hi | hi
  · exact k.lt i hi
  · exact hi.2
section
variable {F : Nat → Prop} {g : Nat} {r : Rp} {w : World}
set_option maxRecDepth 100000 in
set_option maxHeartbeats 800000 in
theorem rtake_dec (h : RpIn F g r w) (hf : r.fit) (f : Nat) (v : Vot) (q : okR r f v) (hs : v.state ≠ 1) : Calls Try.prog 34 #[ptrV g, .int .i64 (f : Int), msgV v] w (RDone F g (setWh (setSt r f v.state) f v.b.l) (.int .i64 0) w) := by
  obtain ⟨bt, bw, bs, bh, h⟩ := h
  have hf7 := hf.n7
  have hfs := hf.state
  have hfh := hf.whom
  have hft := hf.told
  have hfw := hf.what
  obtain ⟨q0, q1, q2, q3, q4, q5, q6, q7, q8, q9, q10⟩ := q
  have hB0 : Hid (∀ n, Below w.heap.size w ((w.alloc (.cells (msgCells v).toArray MgT)).drewN n)) := Lib.hid (fun n => below_drewN (alloc_below w _) n)
  have hX0 : Hid (∀ n, BlkAt w.heap.size MgT (msgCells v) ((w.alloc (.cells (msgCells v).toArray MgT)).drewN n)) := Lib.hid (fun n => BlkAt.alloc_new w _ _)
  have hS0 : Hid (∀ n, ((w.alloc (.cells (msgCells v).toArray MgT)).drewN n).heap.size = w.heap.size + 1) := Lib.hid (fun n => by simp [World.drewN])
  have HR := Lib.hid h
  have h0 := h.head
  have hlt : g < w.heap.size := h0.lt
  have c0 := h0.cell (i := 0) (v := .int .i64 r.me) rfl
  have c1 := h0.cell (i := 1) (v := .int .i64 r.nodes) rfl
  have z0 := decide_eq_false q0
  have z1 := decide_eq_false q1
  have z2 : ((f : Int) == (r.me : Int)) = false := by simpa using q2
  have z1n : decide (r.nodes ≤ f) = false := decide_eq_false (by omega)
  have hne : f ≠ r.me := by omega
  have z2n : (f == r.me) = false := by simpa using hne
  have z2m : decide (f = r.me) = false := decide_eq_false hne
  have z3 := decide_eq_false q3
  have z4 := decide_eq_false q4
  have z5 := decide_eq_false q5
  have z6 := decide_eq_false q6
  have z7 := decide_eq_false q7
  have z8 := decide_eq_false q8
  have z9 := decide_eq_false q9
  have z10 := decide_eq_false q10
  clear h h0 q2 hne
  unfold msgCells at hB0 hX0 hS0
  unfold ptrV msgV
  go_enter Try.func34, Try.ntmps34
  go_wp2_with (fail)
  go_quiet (fail)
  have hB := hB0.out nq
  have hX := hX0.out nq
  have hS := hS0.out nq
  clear hB0 hX0 hS0 c0 c1
  generalize World.drewN _ nq = x at *
  have x1 := hX.cell (i := 1) (v := .int .i64 v.b.l) rfl
  have x2 := hX.cell (i := 2) (v := .int .i64 v.b.e) rfl
  have x3 := hX.cell (i := 3) (v := .int .i64 v.b.c) rfl
  have x4 := hX.cell (i := 4) (v := .int .i64 v.b.p) rfl
  have x8 := hX.cell (i := 8) (v := .int .i64 v.round) rfl
  have x9 := hX.cell (i := 9) (v := .int .i64 v.state) rfl
  have hRx := HR.out.grew hB
  have k1 := hRx.head.cell (i := 1) (v := .int .i64 r.nodes) rfl
  have k6 := hRx.head.cell (i := 6) (v := .int .i64 r.round) rfl
  have k11 := hRx.head.cell (i := 11) (v := sl bt r.nodes) rfl
  have k12 := hRx.head.cell (i := 12) (v := sl bw r.nodes) rfl
  have k13 := hRx.head.cell (i := 13) (v := sl bs r.nodes) rfl
  have k14 := hRx.head.cell (i := 14) (v := sl bh r.nodes) rfl
  have hfn : f < r.nodes := by omega
  obtain ⟨hne, hsF, hhF, hbs, hbh⟩ := hRx.states
  have s0 := hbs.cell (ints_get r.state f (by omega))
  have s1 := hbh.cell (ints_get r.whom f (by omega))
  have fs : ∀ i, x.frozen? ⟨bs, i, none⟩ = false := hbs.frozen
  have fh : ∀ i, x.frozen? ⟨bh, i, none⟩ = false := hbh.frozen
  have ngs : g ≠ bs := blk_other hRx.head hbs (by decide)
  have ngh : g ≠ bh := blk_other hRx.head hbh (by decide)
  have nxs : w.heap.size ≠ bs := blk_other hX hbs (by decide)
  have nxh : w.heap.size ≠ bh := blk_other hX hbh (by decide)
  have hbl := hbs.lt
  have hhl := hbh.lt
  have hgl := hRx.head.lt
  have HRx := Lib.hid hRx
  have HBx := Lib.hid hB
  have HX := Lib.hid hX
  have HBs := Lib.hid hbs
  have HBh := Lib.hid hbh
  clear hB hX hRx hbs hbh hsF hhF
  unfold sl at k11 k12 k13 k14
  generalize hBe : w.heap.size = B at *
  have HBe := Lib.hid hBe
  clear hBe
  have zs : (v.state != 1) = true := by simpa using hs
  clear hs
  go_wp2_with (fail)
  go_region
  go_wp2_with (fail)
  go_region
  go_wp2_with (fail)
  go_ret
  refine RDone.drew (RDone.drew ?_)
  exact dec_done HRx.out (by rw [HBe.out]; exact HBx.out) hfn hf _ _
end
end Go.Proofs.Ytaahbfcnccmcoaa
