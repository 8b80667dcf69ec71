/- The walk of what the reference's Take heeds: a vote of a new round. Conditions: as each theorem says. -/
import Derived.Test.YtaahbfcnccmcoaaVoteRl
namespace Go.Proofs.Ytaahbfcnccmcoaa
open Go.RowKit

def moreR (r : Rp) (f : Nat) (b : Bal) (n : Int) (q : Bool) : Rp := if q then tellR (voteR (freshR (setSt r f 0) n) b) f b else tellR (freshR (setSt r f 0) n) f b
theorem RpAt.of_drew {F : Nat → Prop} {g : Nat} {r : Rp} {bt bw : Nat} {vs vh : Value} {w : World} (h : RpAt F g r bt bw vs vh w.drew) : RpAt F g r bt bw vs vh w := by
  refine ⟨h.head, h.told, h.what, ?_, h.fg, h.ft, h.fw, h.lt⟩
  rcases h.st with e | ⟨b1, b2, h4, h5, h6, h7, h8, h9, h10⟩
  · exact .inl e
  · exact .inr ⟨b1, b2, h4, h5, h6, h7, h8, h9, h10⟩
/-- A call's end behind calls: what they laid is the poll's. -/
theorem RDone.foot {F G : Nat → Prop} {g : Nat} {r : Rp} {bt bw bs bh : Nat} {v : Value} {w y : World} (hF : ∀ i, F i → i < w.heap.size) (hG : ∀ i, G i → F i ∨ w.heap.size ≤ i) (h : RpAt G g r bt bw (sl bs r.nodes) (sl bh r.nodes) y) (hA : Apart F w y) : RDone F g r v w (.returned v) y := by
  refine ⟨rfl, ⟨bt, bw, bs, bh, h.mono (fun i hi => ?_) (fun i hi => ?_)⟩, hA⟩
  · rcases hG i hi with h1 | h1
    · exact .inl h1
    · exact .inr ⟨h1, h.lt i hi⟩
  · rcases hi with hi | hi
    · have := hF i hi
      have := hA.size
      omega
    · exact hi.2
section
variable {F : Nat → Prop} {g : Nat} {r : Rp} {w : World}
set_option maxRecDepth 100000 in
set_option maxHeartbeats 1600000 in
theorem rtake_more (h : RpIn F g r w) (hf : r.fit) (f : Nat) (b : Bal) (n : Int) (q0 : okR r f ⟨b, n, 1⟩) (hr : Hid (r.round < n)) (q : Bool) (hb : Hid (betterB b r.own = q)) : Calls Try.prog 34 #[ptrV g, .int .i64 (f : Int), msgV ⟨b, n, 1⟩] w (RDone F g (moreR r f b n q) (.int .i64 2) w) := by
  have hF0 := Lib.hid h.choose_spec.choose_spec.choose_spec.choose_spec.lt
  have hfitS := Lib.hid (setSt_fit r hf f 0)
  have hfitF := Lib.hid (freshR_fit _ (setSt_fit r hf f 0) n)
  obtain ⟨bt, bw, bs, bh, h⟩ := h
  have hf7 := hf.n7
  have hfs := hf.state
  have hfh := hf.whom
  have hft := hf.told
  have hfw := hf.what
  unfold okR at q0
  simp only at q0
  obtain ⟨q0, q1, q2, q3, q4, q5, q6, q7, q8, q9, q10⟩ := q0
  have hB0 : Hid (∀ m, Below w.heap.size w ((w.alloc (.cells (msgCells ⟨b, n, 1⟩).toArray MgT)).drewN m)) := Lib.hid (fun m => below_drewN (alloc_below w _) m)
  have hX0 : Hid (∀ m, BlkAt w.heap.size MgT (msgCells ⟨b, n, 1⟩) ((w.alloc (.cells (msgCells ⟨b, n, 1⟩).toArray MgT)).drewN m)) := Lib.hid (fun m => BlkAt.alloc_new w _ _)
  have hS0 : Hid (∀ m, ((w.alloc (.cells (msgCells ⟨b, n, 1⟩).toArray MgT)).drewN m).heap.size = w.heap.size + 1) := Lib.hid (fun m => by simp [World.drewN])
  have HR := Lib.hid h
  have h0 := h.head
  have hlt : g < w.heap.size := h0.lt
  have c0 := h0.cell (i := 0) (v := .int .i64 r.me) rfl
  have c1 := h0.cell (i := 1) (v := .int .i64 r.nodes) rfl
  have z0 := decide_eq_false q0
  have z1 := decide_eq_false q1
  have z2 : ((f : Int) == (r.me : Int)) = false := by simpa using q2
  have z1n : decide (r.nodes ≤ f) = false := decide_eq_false (by omega)
  have hne : f ≠ r.me := by omega
  have z2n : (f == r.me) = false := by simpa using hne
  have z2m : decide (f = r.me) = false := decide_eq_false hne
  have z3 := decide_eq_false q3
  have z4 := decide_eq_false q4
  have z5 := decide_eq_false q5
  have z6 := decide_eq_false q6
  have z7 := decide_eq_false q7
  have z8 := decide_eq_false q8
  have z9 := decide_eq_false q9
  have z10 := decide_eq_false q10
  clear h h0 q2 hne
  unfold msgCells at hB0 hX0 hS0
  unfold ptrV msgV
  simp only at hB0 hX0 hS0 ⊢
  go_enter Try.func34, Try.ntmps34
  go_wp2_with (fail)
  go_quiet (fail)
  have hB := hB0.out nq
  have hX := hX0.out nq
  have hS := hS0.out nq
  clear hB0 hX0 hS0 c0 c1
  generalize World.drewN _ nq = x at *
  have x1 := hX.cell (i := 1) (v := .int .i64 b.l) rfl
  have x2 := hX.cell (i := 2) (v := .int .i64 b.e) rfl
  have x3 := hX.cell (i := 3) (v := .int .i64 b.c) rfl
  have x4 := hX.cell (i := 4) (v := .int .i64 b.p) rfl
  have x8 := hX.cell (i := 8) (v := .int .i64 n) rfl
  have x9 := hX.cell (i := 9) (v := .int .i64 1) rfl
  have hRx := HR.out.grew hB
  have k1 := hRx.head.cell (i := 1) (v := .int .i64 r.nodes) rfl
  have k6 := hRx.head.cell (i := 6) (v := .int .i64 r.round) rfl
  have k11 := hRx.head.cell (i := 11) (v := sl bt r.nodes) rfl
  have k12 := hRx.head.cell (i := 12) (v := sl bw r.nodes) rfl
  have k13 := hRx.head.cell (i := 13) (v := sl bs r.nodes) rfl
  have k14 := hRx.head.cell (i := 14) (v := sl bh r.nodes) rfl
  have hfn : f < r.nodes := by omega
  obtain ⟨hne, hsF, hhF, hbs, hbh⟩ := hRx.states
  have s0 := hbs.cell (ints_get r.state f (by omega))
  have s1 := hbh.cell (ints_get r.whom f (by omega))
  have fs : ∀ i, x.frozen? ⟨bs, i, none⟩ = false := hbs.frozen
  have fh : ∀ i, x.frozen? ⟨bh, i, none⟩ = false := hbh.frozen
  have ngs : g ≠ bs := blk_other hRx.head hbs (by decide)
  have ngh : g ≠ bh := blk_other hRx.head hbh (by decide)
  have nxs : w.heap.size ≠ bs := blk_other hX hbs (by decide)
  have nxh : w.heap.size ≠ bh := blk_other hX hbh (by decide)
  have hbl := hbs.lt
  have hhl := hbh.lt
  have hgl := hRx.head.lt
  have HRx := Lib.hid hRx
  have HBx := Lib.hid hB
  have HX := Lib.hid hX
  have HBs := Lib.hid hbs
  have HBh := Lib.hid hbh
  clear hB hX hRx hbs hbh hsF hhF
  unfold sl at k11 k12 k13 k14
  generalize hBe : w.heap.size = B at *
  have HBe := Lib.hid hBe
  clear hBe
  have zr : decide (n < r.round) = false := decide_eq_false (by have := hr.out; omega)
  have zr2 : decide (r.round < n) = true := decide_eq_true hr.out
  go_wp2_with (fail)
  go_region
  go_wp2_with (fail)
  have HBW : Hid (bw < B) := by rw [← HBe.out]; exact Lib.hid HR.out.what.lt
  have hRy0 := (HRx.out.setState f 0)
  have hXy0 := HX.out.grown (grown_set x bs f (.int .i64 0)) (fun e => nxs (Option.some.inj e))
  have hgy := grown_set x bs f (.int .i64 0)
  have hAy0 : Apart F w (x.setCell ⟨bs, f, none⟩ (.int .i64 0)) := (Apart.of_below (F := F) (by rw [HBe.out]; exact HBx.out)).trans (Apart.of_grown (F := F) hgy (fun k hk => .inl (by rw [← Option.some.inj hk]; exact HRx.out.states.2.1))) (fun i hi => .inl hi)
  have hzy : (x.setCell ⟨bs, f, none⟩ (.int .i64 0)).heap.size = B + 1 := by simp [hS]
  clear x1 x2 x3 x4 x8 x9 k1 k6 k11 k12 k13 k14 s0 s1 fs fh hbl hhl hgl hgy HRx HX HBx HBs HBh
  generalize x.setCell ⟨bs, f, none⟩ (.int .i64 0) = y0 at *
  have hB1 := (alloc_below y0 (.cells #[.int .i64 b.l, .int .i64 b.e, .int .i64 b.c, .int .i64 b.p] RbT)).drew
  have hRy := hRy0.grew hB1
  have hXy := hXy0.grew hB1
  have hCy : BlkAt (B + 1) RbT (Bal.cells b) ((y0.alloc (.cells #[.int .i64 b.l, .int .i64 b.e, .int .i64 b.c, .int .i64 b.p] RbT)).drew) := by rw [← hzy]; exact BlkAt.alloc_new y0 (Bal.cells b) RbT
  have hAy : Apart F w ((y0.alloc (.cells #[.int .i64 b.l, .int .i64 b.e, .int .i64 b.c, .int .i64 b.p] RbT)).drew) := hAy0.trans (Apart.of_below (F := F) hB1) (fun i hi => .inl hi)
  clear hRy0 hXy0 hAy0 hB1
  generalize (y0.alloc (.cells #[.int .i64 b.l, .int .i64 b.e, .int .i64 b.c, .int .i64 b.p] RbT)).drew = y at *
  obtain ⟨C, hC⟩ : ∃ C, C = B + 1 := ⟨_, rfl⟩
  rw [← hC] at hCy ⊢
  have hRy' := hRy
  have y8 := hXy.cell (i := 8) (v := .int .i64 n) rfl
  have d0 := hCy.cell (i := 0) (v := .int .i64 b.l) rfl
  have d1 := hCy.cell (i := 1) (v := .int .i64 b.e) rfl
  have d2 := hCy.cell (i := 2) (v := .int .i64 b.c) rfl
  have d3 := hCy.cell (i := 3) (v := .int .i64 b.p) rfl
  have k6 := hRy.head.cell (i := 6) (v := .int .i64 r.round) rfl
  have k7 := hRy.head.cell (i := 7) (v := .int .i64 r.now.l) rfl
  have k8 := hRy.head.cell (i := 8) (v := .int .i64 r.now.e) rfl
  have k9 := hRy.head.cell (i := 9) (v := .int .i64 r.now.c) rfl
  have k10 := hRy.head.cell (i := 10) (v := .int .i64 r.now.p) rfl
  have k11 := hRy.head.cell (i := 11) (v := sl bt r.nodes) rfl
  have k12 := hRy.head.cell (i := 12) (v := sl bw r.nodes) rfl
  have hfl : f < r.told.length := by omega
  have hfl2 : f < r.what.length := by omega
  have t0 := hRy.told.cell (bools_get r.told f hfl)
  have b0 := hRy.what.cell (i := f * 4) ((bals_get r.what f 0 hfl2 (by omega)).trans (by rfl : _ = some (.int .i64 (r.what[f]).l)))
  have b1 := hRy.what.cell ((bals_get r.what f 1 hfl2 (by omega)).trans (by rfl : _ = some (.int .i64 (r.what[f]).e)))
  have b2 := hRy.what.cell ((bals_get r.what f 2 hfl2 (by omega)).trans (by rfl : _ = some (.int .i64 (r.what[f]).c)))
  have b3 := hRy.what.cell ((bals_get r.what f 3 hfl2 (by omega)).trans (by rfl : _ = some (.int .i64 (r.what[f]).p)))
  have ft : ∀ i, y.frozen? ⟨bt, i, none⟩ = false := hRy.told.frozen
  have fw : ∀ i, y.frozen? ⟨bw, i, none⟩ = false := hRy.what.frozen
  have ngt : g ≠ bt := blk_other hRy.head hRy.told (by decide)
  have ngw : g ≠ bw := blk_other hRy.head hRy.what (by decide)
  have ntw : bt ≠ bw := blk_other hRy.told hRy.what (by decide)
  have nxt : B ≠ bt := blk_other hXy hRy.told (by decide)
  have nxw : B ≠ bw := blk_other hXy hRy.what (by decide)
  have nct : C ≠ bt := blk_other hCy hRy.told (by decide)
  have ncw : C ≠ bw := by intro e; have := HBW.out; omega
  have HC := Lib.hid hC
  clear hC hzy hS
  have hbtl := hRy.told.lt
  have hbwl := hRy.what.lt
  have hgl := hRy.head.lt
  have hcl := hCy.lt
  generalize r.told[f] = tv at *
  generalize r.what[f] = wv at *
  unfold sl at k11 k12
  have HRy := Lib.hid hRy
  have HXy := Lib.hid hXy
  have HCy := Lib.hid hCy
  have HAy := Lib.hid hAy
  clear hRy hRy' hXy hCy hAy
  go_region
  have HFr : Hid (∀ W, RpAt F g (setSt r f 0) bt bw (sl bs r.nodes) (sl bh r.nodes) W → Calls Try.prog 50 #[ptrV g, .int .i64 n] W (RDone F g (freshR (setSt r f 0) n) (.tuple #[]) W)) := Lib.hid (fun W hW => rfresh_any hW.head hW.st hW.fg hW.lt hfitS.out n)
  unfold ptrV at HFr
  have HF1 := Lib.hid (HFr.out _ HRy.out.drew)
  have hCF : Hid (¬ F C) := Lib.hid (fun hc => by have := hF0.out C hc; have := HC.out; omega)
  have hCy2 : Hid (C < y.heap.size) := Lib.hid hcl
  have hyB : Hid (B ≤ y.heap.size) := Lib.hid (by have := HC.out; omega)
  clear HFr
  go_wp2_with (fail)
  refine HF1.out.mono ?_
  rintro e w3 ⟨rfl, ⟨bt1, bw1, bs1, bh1, hR3⟩, hA3⟩
  have hG3 : Hid (∀ i, Foot F y.drew w3 i → F i ∨ B ≤ i) := Lib.hid (fun i hi => by
    rcases hi with hi | hi
    · exact .inl hi
    · have h1 : y.heap.size ≤ i := hi.1
      have h2 := hyB.out
      exact .inr (by omega))
  have hCG : Hid (¬ Foot F y.drew w3 C) := Lib.hid (fun hc => by
    rcases hc with hc | hc
    · exact hCF.out hc
    · have h1 : y.heap.size ≤ C := hc.1
      have h2 := hCy2.out
      omega)
  have hC3 : BlkAt C RbT b.cells w3 := by
    have h1 := hA3.block C (by show C < y.heap.size; exact hcl) (by rintro hc; exact hCF.out hc)
    unfold BlkAt
    rw [h1]
    exact HCy.out
  have HA3 := Lib.hid ((HAy.out.drew).trans hA3 (fun i hi => .inl hi))
  clear y8 d0 d1 d2 d3 k6 k7 k8 k9 k10 k11 k12 t0 b0 b1 b2 b3 ft fw hbtl hbwl hgl hcl HRy HXy HCy HAy HF1 hA3
  generalize Foot F y.drew w3 = F3 at *
  have d0 := hC3.cell (i := 0) (v := .int .i64 b.l) rfl
  have d1 := hC3.cell (i := 1) (v := .int .i64 b.e) rfl
  have d2 := hC3.cell (i := 2) (v := .int .i64 b.c) rfl
  have d3 := hC3.cell (i := 3) (v := .int .i64 b.p) rfl
  have HR3 := Lib.hid hR3
  have HC3 := Lib.hid hC3
  have HBt := Lib.hid (fun W => rbetter_any b r.own W)
  rw [hb.out] at HBt
  unfold balV at HBt
  have HCr := Lib.hid (fun (W : World) (hW : Below w3.heap.size w3 W) => BlkAt.range (BlkAt.grew HC3.out hW) 0 b.cells (fun j hj => by match j, hj with | 0, _ => rfl | 1, _ => rfl | 2, _ => rfl | 3, _ => rfl))
  have HNr := Lib.hid (fun (W : World) (hW : Below w3.heap.size w3 W) => BlkAt.range (BlkAt.grew HR3.out.head hW) 2 r.own.cells (fun j hj => by match j, hj with | 0, _ => rfl | 1, _ => rfl | 2, _ => rfl | 3, _ => rfl))
  unfold Bal.cells at HCr HNr
  clear hR3 hC3
  go_wp2_with (fail)
  have hex := Grew.all w3
  refine wp_region_grew (by kernel_rfl) (by kernel_rfl) ?_
  repeat (first | go_big_quiet_skip | (go_big_quiet_want; first | (refine quiet_load_mid RbT _ rfl C 0 rfl [.int .i64 b.l, .int .i64 b.e, .int .i64 b.c, .int .i64 b.p] _ (fun W hW => HCr.out W hW) Try.underlying110 rfl (by kernel_rfl) ?_; simp only [Act.put, List.setIfInBounds_toArray, List.set_cons_succ, List.set_cons_zero]; go_big_quiet_on) | (refine quiet_load_mid RbT _ rfl g 2 rfl [.int .i64 r.own.l, .int .i64 r.own.e, .int .i64 r.own.c, .int .i64 r.own.p] _ (fun W hW => HNr.out W hW) Try.underlying110 rfl (by kernel_rfl) ?_; simp only [Act.put, List.setIfInBounds_toArray, List.set_cons_succ, List.set_cons_zero]; go_big_quiet_on) | (go_big_quiet_op; first | go_big_quiet_on | (apply Exists.intro; refine ⟨fun W hW => ?_, ?_⟩; (first | exact rfl | (go_at_call 51; with_reducible exact Calls.grew hW (HBt.out _))); go_big_quiet_on))))
  refine wpQuiet_nil ?_
  intro w4 hw4
  have hR4 := HR3.out.grew hw4
  have hC4 := HC3.out.grew hw4
  have hA4 := HA3.out.trans (Apart.of_below (F := F) hw4) (fun i hi => .inl hi)
  clear hex hw4 d0 d1 d2 d3 HR3 HC3 HA3 HCr HNr HBt
  have hfitV := Lib.hid (vote_fitR _ hfitF.out b)
  cases q with
  | false =>
    have hCG2 := hCG
    have hRq := hR4
    have hCq := hC4
    have HAq := Lib.hid (hA4)
    have HGq := Lib.hid (hG3.out)
    have hfq := hfitF.out
    obtain ⟨rq, hrq⟩ : ∃ rq, rq = (freshR (setSt r f 0) n) := ⟨_, rfl⟩
    have hnq : rq.nodes = r.nodes := by rw [hrq]; rfl
    have HE0 : Hid (moreR r f b n false = tellR rq f b) := Lib.hid (by rw [hrq]; rfl)
    rw [← hrq] at hfq
    replace hRq : RpAt F3 g rq bt1 bw1 (sl bs1 rq.nodes) (sl bh1 rq.nodes) w4 := by rw [hrq]; exact hRq
    clear hrq
    have d0 := hCq.cell (i := 0) (v := .int .i64 b.l) rfl
    have d1 := hCq.cell (i := 1) (v := .int .i64 b.e) rfl
    have d2 := hCq.cell (i := 2) (v := .int .i64 b.c) rfl
    have d3 := hCq.cell (i := 3) (v := .int .i64 b.p) rfl
    have k11 := hRq.head.cell (i := 11) (v := sl bt1 rq.nodes) rfl
    have k12 := hRq.head.cell (i := 12) (v := sl bw1 rq.nodes) rfl
    have hfl : f < rq.told.length := by have := hfq.told; omega
    have hfl2 : f < rq.what.length := by have := hfq.what; omega
    have hfnq : f < rq.nodes := by omega
    have t0 := hRq.told.cell (bools_get rq.told f hfl)
    have b0 := hRq.what.cell (i := f * 4) ((bals_get rq.what f 0 hfl2 (by omega)).trans (by rfl : _ = some (.int .i64 (rq.what[f]).l)))
    have b1 := hRq.what.cell ((bals_get rq.what f 1 hfl2 (by omega)).trans (by rfl : _ = some (.int .i64 (rq.what[f]).e)))
    have b2 := hRq.what.cell ((bals_get rq.what f 2 hfl2 (by omega)).trans (by rfl : _ = some (.int .i64 (rq.what[f]).c)))
    have b3 := hRq.what.cell ((bals_get rq.what f 3 hfl2 (by omega)).trans (by rfl : _ = some (.int .i64 (rq.what[f]).p)))
    have ft : ∀ i, w4.frozen? ⟨bt1, i, none⟩ = false := hRq.told.frozen
    have fw : ∀ i, w4.frozen? ⟨bw1, i, none⟩ = false := hRq.what.frozen
    have ngt : g ≠ bt1 := blk_other hRq.head hRq.told (by decide)
    have ngw : g ≠ bw1 := blk_other hRq.head hRq.what (by decide)
    have ntw : bt1 ≠ bw1 := blk_other hRq.told hRq.what (by decide)
    have nct : C ≠ bt1 := blk_other hCq hRq.told (by decide)
    have ncw : C ≠ bw1 := fun e => hCG2.out (by rw [e]; exact hRq.fw)
    have hbtl := hRq.told.lt
    have hbwl := hRq.what.lt
    have hgl := hRq.head.lt
    have hcl := hCq.lt
    generalize rq.told[f] = tv at *
    generalize rq.what[f] = wv at *
    unfold sl at k11 k12
    have HRq := Lib.hid hRq
    have HEq : Hid (RDone F g (moreR r f b n false) (.int .i64 2) w (.returned (.int .i64 2)) (tellW w4 bt1 bw1 f b).drew) := by
      rw [HE0.out]
      refine Lib.hid (RDone.foot (bs := bs1) (bh := bh1) (by rw [HBe.out]; exact hF0.out) (by rw [HBe.out]; exact HGq.out) (tell_at HRq.out hfl2 b).drew ?_)
      refine (Apart.trans HAq.out (tell_apart F3 w4 bt1 bw1 f b HRq.out.ft HRq.out.fw) (fun i hi => ?_)).drew
      rw [HBe.out]
      exact HGq.out i hi
    unfold tellW at HEq
    clear hRq hCq hfl hfl2 HRq HAq HGq HE0
    go_wp2_with (fail)
    go_region
    go_wp2_with (fail)
    go_ret
    exact HEq.out
  | true =>
    have d0 := hC4.cell (i := 0) (v := .int .i64 b.l) rfl
    have d1 := hC4.cell (i := 1) (v := .int .i64 b.e) rfl
    have d2 := hC4.cell (i := 2) (v := .int .i64 b.c) rfl
    have d3 := hC4.cell (i := 3) (v := .int .i64 b.p) rfl
    have HV := Lib.hid (rvote_any hR4 hfitF.out b)
    unfold ptrV balV at HV
    have HA4 := Lib.hid hA4
    have HC4 := Lib.hid hC4
    have h4C : Hid (C < w4.heap.size) := Lib.hid hC4.lt
    have h4B : Hid (B ≤ w4.heap.size) := Lib.hid (by have := hC4.lt; have := HC.out; omega)
    clear hR4 hC4 hA4
    go_wp2_with (fail)
    refine HV.out.mono ?_
    rintro e w5 ⟨rfl, ⟨bs5, bh5, hR5⟩, hA5⟩
    have hC5 : BlkAt C RbT b.cells w5 := by
      have h1 := hA5.block C h4C.out hCG.out
      unfold BlkAt
      rw [h1]
      exact HC4.out
    have hCG2 : Hid (¬ Foot F3 w4 w5 C) := Lib.hid (fun hc => by
      rcases hc with hc | hc
      · exact hCG.out hc
      · have h1 := h4C.out
        have h2 := hc.1
        omega)
    have hG5 : Hid (∀ i, Foot F3 w4 w5 i → F i ∨ B ≤ i) := Lib.hid (fun i hi => by
      rcases hi with hi | hi
      · exact hG3.out i hi
      · have h1 := h4B.out
        have h2 := hi.1
        exact .inr (by omega))
    have hA6 := HA4.out.trans hA5 (fun i hi => by rw [HBe.out]; exact hG3.out i hi)
    clear hA5 HV HA4 HC4 d0 d1 d2 d3
    have hRq := hR5
    have hCq := hC5
    have HAq := Lib.hid (hA6)
    have HGq := Lib.hid (hG5.out)
    have hfq := hfitV.out
    obtain ⟨rq, hrq⟩ : ∃ rq, rq = (voteR (freshR (setSt r f 0) n) b) := ⟨_, rfl⟩
    have hnq : rq.nodes = r.nodes := by rw [hrq]; rfl
    have HE0 : Hid (moreR r f b n true = tellR rq f b) := Lib.hid (by rw [hrq]; rfl)
    rw [← hrq] at hfq
    replace hRq : RpAt (Foot F3 w4 w5) g rq bt1 bw1 (sl bs5 rq.nodes) (sl bh5 rq.nodes) w5 := by rw [hrq]; exact hRq
    clear hrq
    have d0 := hCq.cell (i := 0) (v := .int .i64 b.l) rfl
    have d1 := hCq.cell (i := 1) (v := .int .i64 b.e) rfl
    have d2 := hCq.cell (i := 2) (v := .int .i64 b.c) rfl
    have d3 := hCq.cell (i := 3) (v := .int .i64 b.p) rfl
    have k11 := hRq.head.cell (i := 11) (v := sl bt1 rq.nodes) rfl
    have k12 := hRq.head.cell (i := 12) (v := sl bw1 rq.nodes) rfl
    have hfl : f < rq.told.length := by have := hfq.told; omega
    have hfl2 : f < rq.what.length := by have := hfq.what; omega
    have hfnq : f < rq.nodes := by omega
    have t0 := hRq.told.cell (bools_get rq.told f hfl)
    have b0 := hRq.what.cell (i := f * 4) ((bals_get rq.what f 0 hfl2 (by omega)).trans (by rfl : _ = some (.int .i64 (rq.what[f]).l)))
    have b1 := hRq.what.cell ((bals_get rq.what f 1 hfl2 (by omega)).trans (by rfl : _ = some (.int .i64 (rq.what[f]).e)))
    have b2 := hRq.what.cell ((bals_get rq.what f 2 hfl2 (by omega)).trans (by rfl : _ = some (.int .i64 (rq.what[f]).c)))
    have b3 := hRq.what.cell ((bals_get rq.what f 3 hfl2 (by omega)).trans (by rfl : _ = some (.int .i64 (rq.what[f]).p)))
    have ft : ∀ i, w5.frozen? ⟨bt1, i, none⟩ = false := hRq.told.frozen
    have fw : ∀ i, w5.frozen? ⟨bw1, i, none⟩ = false := hRq.what.frozen
    have ngt : g ≠ bt1 := blk_other hRq.head hRq.told (by decide)
    have ngw : g ≠ bw1 := blk_other hRq.head hRq.what (by decide)
    have ntw : bt1 ≠ bw1 := blk_other hRq.told hRq.what (by decide)
    have nct : C ≠ bt1 := blk_other hCq hRq.told (by decide)
    have ncw : C ≠ bw1 := fun e => hCG2.out (by rw [e]; exact hRq.fw)
    have hbtl := hRq.told.lt
    have hbwl := hRq.what.lt
    have hgl := hRq.head.lt
    have hcl := hCq.lt
    generalize rq.told[f] = tv at *
    generalize rq.what[f] = wv at *
    unfold sl at k11 k12
    have HRq := Lib.hid hRq
    have HEq : Hid (RDone F g (moreR r f b n true) (.int .i64 2) w (.returned (.int .i64 2)) (tellW w5 bt1 bw1 f b).drew) := by
      rw [HE0.out]
      refine Lib.hid (RDone.foot (bs := bs5) (bh := bh5) (by rw [HBe.out]; exact hF0.out) (by rw [HBe.out]; exact HGq.out) (tell_at HRq.out hfl2 b).drew ?_)
      refine (Apart.trans HAq.out (tell_apart (Foot F3 w4 w5) w5 bt1 bw1 f b HRq.out.ft HRq.out.fw) (fun i hi => ?_)).drew
      rw [HBe.out]
      exact HGq.out i hi
    unfold tellW at HEq
    clear hRq hCq hfl hfl2 HRq HAq HGq HE0
    go_wp2_with (fail)
    go_region
    go_wp2_with (fail)
    go_ret
    exact HEq.out
end
end Go.Proofs.Ytaahbfcnccmcoaa
