/- The walk of what the reference's Take heeds: a vote of the same round. Conditions: as each theorem says. -/
import Derived.Test.YtaahbfcnccmcoaaVoteTl
namespace Go.Proofs.Ytaahbfcnccmcoaa
open Go.RowKit

theorem setSt_fit (r : Rp) (hf : r.fit) (f : Nat) (s : Int) : (setSt r f s).fit := ⟨hf.n1, hf.n7, hf.me, hf.told, hf.what, by simp [setSt, hf.state], hf.whom⟩
theorem setWh_fit (r : Rp) (hf : r.fit) (f : Nat) (s : Int) : (setWh r f s).fit := ⟨hf.n1, hf.n7, hf.me, hf.told, hf.what, hf.state, by simp [setWh, hf.whom]⟩
theorem tellR_fit (r : Rp) (hf : r.fit) (f : Nat) (b : Bal) : (tellR r f b).fit := ⟨hf.n1, hf.n7, hf.me, by simp [tellR, hf.told], by simp [tellR, hf.what], hf.state, hf.whom⟩
def sameR (r : Rp) (f : Nat) (b : Bal) (q : Bool) : Rp := if q then voteR (tellR (setSt r f 0) f b) b else tellR (setSt r f 0) f b
def sameN (q : Bool) : Int := if q then 2 else 0
section
variable {F : Nat → Prop} {g : Nat} {r : Rp} {w : World}
set_option maxRecDepth 100000 in
set_option maxHeartbeats 1600000 in
theorem rtake_same (h : RpIn F g r w) (hf : r.fit) (f : Nat) (b : Bal) (n : Int) (q0 : okR r f ⟨b, n, 1⟩) (hr : Hid (n = r.round)) (q : Bool) (hb : Hid (betterB b r.now = q)) : Calls Try.prog 34 #[ptrV g, .int .i64 (f : Int), msgV ⟨b, n, 1⟩] w (RDone F g (sameR r f b q) (.int .i64 (sameN q)) w) := by
  have hF0 := Lib.hid h.choose_spec.choose_spec.choose_spec.choose_spec.lt
  have hfitT := Lib.hid (tellR_fit _ (setSt_fit r hf f 0) f b)
  obtain ⟨bt, bw, bs, bh, h⟩ := h
  have hf7 := hf.n7
  have hfs := hf.state
  have hfh := hf.whom
  have hft := hf.told
  have hfw := hf.what
  unfold okR at q0
  simp only at q0
  obtain ⟨q0, q1, q2, q3, q4, q5, q6, q7, q8, q9, q10⟩ := q0
  have hB0 : Hid (∀ m, Below w.heap.size w ((w.alloc (.cells (msgCells ⟨b, n, 1⟩).toArray MgT)).drewN m)) := Lib.hid (fun m => below_drewN (alloc_below w _) m)
  have hX0 : Hid (∀ m, BlkAt w.heap.size MgT (msgCells ⟨b, n, 1⟩) ((w.alloc (.cells (msgCells ⟨b, n, 1⟩).toArray MgT)).drewN m)) := Lib.hid (fun m => BlkAt.alloc_new w _ _)
  have hS0 : Hid (∀ m, ((w.alloc (.cells (msgCells ⟨b, n, 1⟩).toArray MgT)).drewN m).heap.size = w.heap.size + 1) := Lib.hid (fun m => by simp [World.drewN])
  have HR := Lib.hid h
  have h0 := h.head
  have hlt : g < w.heap.size := h0.lt
  have c0 := h0.cell (i := 0) (v := .int .i64 r.me) rfl
  have c1 := h0.cell (i := 1) (v := .int .i64 r.nodes) rfl
  have z0 := decide_eq_false q0
  have z1 := decide_eq_false q1
  have z2 : ((f : Int) == (r.me : Int)) = false := by simpa using q2
  have z1n : decide (r.nodes ≤ f) = false := decide_eq_false (by omega)
  have hne : f ≠ r.me := by omega
  have z2n : (f == r.me) = false := by simpa using hne
  have z2m : decide (f = r.me) = false := decide_eq_false hne
  have z3 := decide_eq_false q3
  have z4 := decide_eq_false q4
  have z5 := decide_eq_false q5
  have z6 := decide_eq_false q6
  have z7 := decide_eq_false q7
  have z8 := decide_eq_false q8
  have z9 := decide_eq_false q9
  have z10 := decide_eq_false q10
  clear h h0 q2 hne
  unfold msgCells at hB0 hX0 hS0
  unfold ptrV msgV
  simp only at hB0 hX0 hS0 ⊢
  go_enter Try.func34, Try.ntmps34
  go_wp2_with (fail)
  go_quiet (fail)
  have hB := hB0.out nq
  have hX := hX0.out nq
  have hS := hS0.out nq
  clear hB0 hX0 hS0 c0 c1
  generalize World.drewN _ nq = x at *
  have x1 := hX.cell (i := 1) (v := .int .i64 b.l) rfl
  have x2 := hX.cell (i := 2) (v := .int .i64 b.e) rfl
  have x3 := hX.cell (i := 3) (v := .int .i64 b.c) rfl
  have x4 := hX.cell (i := 4) (v := .int .i64 b.p) rfl
  have x8 := hX.cell (i := 8) (v := .int .i64 n) rfl
  have x9 := hX.cell (i := 9) (v := .int .i64 1) rfl
  have hRx := HR.out.grew hB
  have k1 := hRx.head.cell (i := 1) (v := .int .i64 r.nodes) rfl
  have k6 := hRx.head.cell (i := 6) (v := .int .i64 r.round) rfl
  have k11 := hRx.head.cell (i := 11) (v := sl bt r.nodes) rfl
  have k12 := hRx.head.cell (i := 12) (v := sl bw r.nodes) rfl
  have k13 := hRx.head.cell (i := 13) (v := sl bs r.nodes) rfl
  have k14 := hRx.head.cell (i := 14) (v := sl bh r.nodes) rfl
  have hfn : f < r.nodes := by omega
  obtain ⟨hne, hsF, hhF, hbs, hbh⟩ := hRx.states
  have s0 := hbs.cell (ints_get r.state f (by omega))
  have s1 := hbh.cell (ints_get r.whom f (by omega))
  have fs : ∀ i, x.frozen? ⟨bs, i, none⟩ = false := hbs.frozen
  have fh : ∀ i, x.frozen? ⟨bh, i, none⟩ = false := hbh.frozen
  have ngs : g ≠ bs := blk_other hRx.head hbs (by decide)
  have ngh : g ≠ bh := blk_other hRx.head hbh (by decide)
  have nxs : w.heap.size ≠ bs := blk_other hX hbs (by decide)
  have nxh : w.heap.size ≠ bh := blk_other hX hbh (by decide)
  have hbl := hbs.lt
  have hhl := hbh.lt
  have hgl := hRx.head.lt
  have HRx := Lib.hid hRx
  have HBx := Lib.hid hB
  have HX := Lib.hid hX
  have HBs := Lib.hid hbs
  have HBh := Lib.hid hbh
  clear hB hX hRx hbs hbh hsF hhF
  unfold sl at k11 k12 k13 k14
  generalize hBe : w.heap.size = B at *
  have HBe := Lib.hid hBe
  clear hBe
  have zr : decide (n < r.round) = false := decide_eq_false (by rw [hr.out]; omega)
  have zr2 : decide (r.round < n) = false := decide_eq_false (by rw [hr.out]; omega)
  go_wp2_with (fail)
  go_region
  go_wp2_with (fail)
  have HBW : Hid (bw < B) := by rw [← HBe.out]; exact Lib.hid HR.out.what.lt
  have hRy0 := (HRx.out.setState f 0)
  have hXy0 := HX.out.grown (grown_set x bs f (.int .i64 0)) (fun e => nxs (Option.some.inj e))
  have hgy := grown_set x bs f (.int .i64 0)
  have hAy0 : Apart F w (x.setCell ⟨bs, f, none⟩ (.int .i64 0)) := (Apart.of_below (F := F) (by rw [HBe.out]; exact HBx.out)).trans (Apart.of_grown (F := F) hgy (fun k hk => .inl (by rw [← Option.some.inj hk]; exact HRx.out.states.2.1))) (fun i hi => .inl hi)
  have hzy : (x.setCell ⟨bs, f, none⟩ (.int .i64 0)).heap.size = B + 1 := by simp [hS]
  clear x1 x2 x3 x4 x8 x9 k1 k6 k11 k12 k13 k14 s0 s1 fs fh hbl hhl hgl hgy HRx HX HBx HBs HBh
  generalize x.setCell ⟨bs, f, none⟩ (.int .i64 0) = y0 at *
  have hB1 := (alloc_below y0 (.cells #[.int .i64 b.l, .int .i64 b.e, .int .i64 b.c, .int .i64 b.p] RbT)).drew
  have hRy := hRy0.grew hB1
  have hXy := hXy0.grew hB1
  have hCy : BlkAt (B + 1) RbT (Bal.cells b) ((y0.alloc (.cells #[.int .i64 b.l, .int .i64 b.e, .int .i64 b.c, .int .i64 b.p] RbT)).drew) := by rw [← hzy]; exact BlkAt.alloc_new y0 (Bal.cells b) RbT
  have hAy : Apart F w ((y0.alloc (.cells #[.int .i64 b.l, .int .i64 b.e, .int .i64 b.c, .int .i64 b.p] RbT)).drew) := hAy0.trans (Apart.of_below (F := F) hB1) (fun i hi => .inl hi)
  clear hRy0 hXy0 hAy0 hB1
  generalize (y0.alloc (.cells #[.int .i64 b.l, .int .i64 b.e, .int .i64 b.c, .int .i64 b.p] RbT)).drew = y at *
  obtain ⟨C, hC⟩ : ∃ C, C = B + 1 := ⟨_, rfl⟩
  rw [← hC] at hCy ⊢
  have hRy' := hRy
  have y8 := hXy.cell (i := 8) (v := .int .i64 n) rfl
  have d0 := hCy.cell (i := 0) (v := .int .i64 b.l) rfl
  have d1 := hCy.cell (i := 1) (v := .int .i64 b.e) rfl
  have d2 := hCy.cell (i := 2) (v := .int .i64 b.c) rfl
  have d3 := hCy.cell (i := 3) (v := .int .i64 b.p) rfl
  have k6 := hRy.head.cell (i := 6) (v := .int .i64 r.round) rfl
  have k7 := hRy.head.cell (i := 7) (v := .int .i64 r.now.l) rfl
  have k8 := hRy.head.cell (i := 8) (v := .int .i64 r.now.e) rfl
  have k9 := hRy.head.cell (i := 9) (v := .int .i64 r.now.c) rfl
  have k10 := hRy.head.cell (i := 10) (v := .int .i64 r.now.p) rfl
  have k11 := hRy.head.cell (i := 11) (v := sl bt r.nodes) rfl
  have k12 := hRy.head.cell (i := 12) (v := sl bw r.nodes) rfl
  have hfl : f < r.told.length := by omega
  have hfl2 : f < r.what.length := by omega
  have t0 := hRy.told.cell (bools_get r.told f hfl)
  have b0 := hRy.what.cell (i := f * 4) ((bals_get r.what f 0 hfl2 (by omega)).trans (by rfl : _ = some (.int .i64 (r.what[f]).l)))
  have b1 := hRy.what.cell ((bals_get r.what f 1 hfl2 (by omega)).trans (by rfl : _ = some (.int .i64 (r.what[f]).e)))
  have b2 := hRy.what.cell ((bals_get r.what f 2 hfl2 (by omega)).trans (by rfl : _ = some (.int .i64 (r.what[f]).c)))
  have b3 := hRy.what.cell ((bals_get r.what f 3 hfl2 (by omega)).trans (by rfl : _ = some (.int .i64 (r.what[f]).p)))
  have ft : ∀ i, y.frozen? ⟨bt, i, none⟩ = false := hRy.told.frozen
  have fw : ∀ i, y.frozen? ⟨bw, i, none⟩ = false := hRy.what.frozen
  have ngt : g ≠ bt := blk_other hRy.head hRy.told (by decide)
  have ngw : g ≠ bw := blk_other hRy.head hRy.what (by decide)
  have ntw : bt ≠ bw := blk_other hRy.told hRy.what (by decide)
  have nxt : B ≠ bt := blk_other hXy hRy.told (by decide)
  have nxw : B ≠ bw := blk_other hXy hRy.what (by decide)
  have nct : C ≠ bt := blk_other hCy hRy.told (by decide)
  have ncw : C ≠ bw := by intro e; have := HBW.out; omega
  have HC := Lib.hid hC
  clear hC hzy hS
  have hbtl := hRy.told.lt
  have hbwl := hRy.what.lt
  have hgl := hRy.head.lt
  have hcl := hCy.lt
  generalize r.told[f] = tv at *
  generalize r.what[f] = wv at *
  unfold sl at k11 k12
  have HRy := Lib.hid hRy
  have HXy := Lib.hid hXy
  have HCy := Lib.hid hCy
  have HAy := Lib.hid hAy
  clear hRy hRy' hXy hCy hAy
  go_region
  go_wp2_with (fail)
  go_region
  go_upto_region 20 with (fail)
  have hRz := ((tell_at HRy.out (f := f) hfl2 b).drew).drew
  have hCz := (((tell_blk (b := b) (f := f) HCy.out nct ncw).drew).drew)
  have hAz := ((HAy.out.trans (tell_apart F y bt bw f b HRy.out.ft HRy.out.fw) (fun i hi => .inl hi)).drew).drew
  clear y8 d0 d1 d2 d3 k6 k7 k8 k9 k10 k11 k12 t0 b0 b1 b2 b3 ft fw hbtl hbwl hgl hcl HRy HXy HCy HAy
  unfold tellW at hRz hCz hAz
  generalize World.drew (World.drew _) = z at *
  have d0 := hCz.cell (i := 0) (v := .int .i64 b.l) rfl
  have d1 := hCz.cell (i := 1) (v := .int .i64 b.e) rfl
  have d2 := hCz.cell (i := 2) (v := .int .i64 b.c) rfl
  have d3 := hCz.cell (i := 3) (v := .int .i64 b.p) rfl
  have k7 := hRz.head.cell (i := 7) (v := .int .i64 r.now.l) rfl
  have k8 := hRz.head.cell (i := 8) (v := .int .i64 r.now.e) rfl
  have k9 := hRz.head.cell (i := 9) (v := .int .i64 r.now.c) rfl
  have k10 := hRz.head.cell (i := 10) (v := .int .i64 r.now.p) rfl
  have HRz := Lib.hid hRz
  have HCz := Lib.hid hCz
  have HAz := Lib.hid hAz
  have HBt := Lib.hid (fun W => rbetter_any b r.now W)
  rw [hb.out] at HBt
  unfold balV at HBt
  have HCr := Lib.hid (fun (W : World) (hW : Below z.heap.size z W) => BlkAt.range (BlkAt.grew HCz.out hW) 0 b.cells (fun j hj => by match j, hj with | 0, _ => rfl | 1, _ => rfl | 2, _ => rfl | 3, _ => rfl))
  have HNr := Lib.hid (fun (W : World) (hW : Below z.heap.size z W) => BlkAt.range (BlkAt.grew HRz.out.head hW) 7 r.now.cells (fun j hj => by match j, hj with | 0, _ => rfl | 1, _ => rfl | 2, _ => rfl | 3, _ => rfl))
  unfold Bal.cells at HCr HNr
  clear hRz hCz hAz
  go_wp2_with (fail)
  have hex := Grew.all z
  refine wp_region_grew (by kernel_rfl) (by kernel_rfl) ?_
  repeat (first | go_big_quiet_skip | (go_big_quiet_want; first | (refine quiet_load_mid RbT _ rfl C 0 rfl [.int .i64 b.l, .int .i64 b.e, .int .i64 b.c, .int .i64 b.p] _ (fun W hW => HCr.out W hW) Try.underlying110 rfl (by kernel_rfl) ?_; simp only [Act.put, List.setIfInBounds_toArray, List.set_cons_succ, List.set_cons_zero]; go_big_quiet_on) | (refine quiet_load_mid RbT _ rfl g 7 rfl [.int .i64 r.now.l, .int .i64 r.now.e, .int .i64 r.now.c, .int .i64 r.now.p] _ (fun W hW => HNr.out W hW) Try.underlying110 rfl (by kernel_rfl) ?_; simp only [Act.put, List.setIfInBounds_toArray, List.set_cons_succ, List.set_cons_zero]; go_big_quiet_on) | (go_big_quiet_op; first | go_big_quiet_on | (apply Exists.intro; refine ⟨fun W hW => ?_, ?_⟩; (first | exact rfl | (go_at_call 51; with_reducible exact Calls.grew hW (HBt.out _))); go_big_quiet_on))))
  refine wpQuiet_nil ?_
  intro w2 hw2
  have hR2 := HRz.out.grew hw2
  have hC2 := HCz.out.grew hw2
  have hA2 := HAz.out.trans (Apart.of_below (F := F) hw2) (fun i hi => .inl hi)
  clear hex hw2 d0 d1 d2 d3 k7 k8 k9 k10
  cases q with
  | false =>
    have HE : Hid (RDone F g (sameR r f b false) (.int .i64 (sameN false)) w (.returned (.int .i64 0)) w2) := Lib.hid (RDone.mk' hR2 hA2)
    clear hR2 hC2 hA2
    as_aux_lemma =>
    go_wp2
    go_ret
    exact HE.out
  | true =>
    have d0 := hC2.cell (i := 0) (v := .int .i64 b.l) rfl
    have d1 := hC2.cell (i := 1) (v := .int .i64 b.e) rfl
    have d2 := hC2.cell (i := 2) (v := .int .i64 b.c) rfl
    have d3 := hC2.cell (i := 3) (v := .int .i64 b.p) rfl
    have HV := Lib.hid (rvote_any hR2 hfitT.out b)
    unfold ptrV balV at HV
    have HA2 := Lib.hid hA2
    clear hR2 hC2 hA2
    go_wp2_with (fail)
    refine HV.out.mono ?_
    rintro e w3 ⟨rfl, ⟨bs3, bh3, hR3⟩, hA3⟩
    have HE : Hid (RDone F g (sameR r f b true) (.int .i64 (sameN true)) w (.returned (.int .i64 2)) w3) := Lib.hid (RDone.after HA2.out (by rw [HBe.out]; exact hF0.out) hR3 hA3)
    clear hR3 hA3 HV HA2
    as_aux_lemma =>
    go_wp2
    go_ret
    exact HE.out
end
end Go.Proofs.Ytaahbfcnccmcoaa
