/- The walk of Take, where it heeds. Conditions: as each theorem says. -/
import Derived.Test.YtaahbfcnccmcoaaVoteE
namespace Go.Proofs.Ytaahbfcnccmcoaa
open Go.RowKit

set_option maxRecDepth 100000 in
set_option maxHeartbeats 1600000 in
theorem take_more0 (g : Nat) (p : Poll) (n : Nat) (v : Vot) (w : World) (h : PollAt g p w) (hp : p.fit) (hfn : n < p.nodes) (hfm : n ≠ p.me) (q2 : nodeB p v.b.l = true) (q3 : 1 ≤ v.state) (q4 : v.state ≤ 3) (q5 : 0 ≤ v.round) (q6 : 0 ≤ v.b.p) (q7 : 0 ≤ v.b.e) (q8 : 0 ≤ v.b.c) (qs : v.state = 1) (qr : p.round < v.round) (qb : betterB v.b p.own = false) :
    Calls Try.prog 28 #[ptrV g, .int .i64 (n : Int), votV v] w fun e w' => e = .returned (.int .i64 2) ∧ PollAt g { (freshP { p with dec := p.dec.set n (0, 0) } v.round) with told := (freshP { p with dec := p.dec.set n (0, 0) } v.round).told.set n (true, v.b) } w' ∧ w.grownBy w' (some g) := by
  have HPg : Hid (∀ o, PollAt g p (w.alloc o)) := fun o => BlkAt.grew h (alloc_below w o)
  have q0 : nodeB p (n : Int) = true := by unfold nodeB; rw [decide_eq_true (by omega), decide_eq_true (by omega)]; rfl
  have HN1 := Lib.hid (fun W hW => node_any g p (n : Int) W hW)
  have HN2 := Lib.hid (fun W hW => node_any g p v.b.l W hW)
  rw [q0] at HN1
  rw [q2] at HN2
  clear q0 q2
  have HB := Lib.hid (alloc_below w)
  have hlt : g < w.heap.size := BlkAt.lt h
  have c0 : w.cell? ⟨g, 0, none⟩ = some (.int .i64 (p.me : Int)) := h.cell (by rfl)
  have c6 : w.cell? ⟨g, 6, none⟩ = some (.int .i64 p.round) := h.cell (by rfl)
  have h7 : n < 7 := by have := hp.nodes7; omega
  have hdl : n < p.dec.length := by rw [hp.dec]; exact h7
  have d0 : w.cell? ⟨g, 46 + n * 2, none⟩ = some (.int .i64 p.dec[n].1) := h.cell (by rw [show 46 + n * 2 = 46 + n * 2 + 0 from rfl, poll_dec p n 0 hp.told hdl (by omega)]; rfl)
  have d1 : w.cell? ⟨g, 46 + n * 2 + 1, none⟩ = some (.int .i64 p.dec[n].2) := h.cell (by rw [poll_dec p n 1 hp.told hdl (by omega)]; rfl)
  have hf : ∀ i, w.frozen? ⟨g, i, none⟩ = false := BlkAt.frozen h
  have e0 : ((n : Int) == (p.me : Int)) = false := by simpa using (fun h => hfm (Int.ofNat.inj h))
  have HP := Lib.hid h
  have Hp := Lib.hid hp
  clear h hp hfm hfn
  obtain ⟨⟨vl, ve, vc, vp⟩, vr, vs⟩ := v
  unfold ptrV at HN1 HN2
  simp only at HN2 q3 q4 q5 q6 q7 q8
  have hm := min4_pos q5 q6 q7 q8
  simp only at qs qr qb
  subst qs
  have r0 : ¬ vr < p.round := by omega
  have h2 : Hid (PollAt g { p with dec := p.dec.set n (0, 0) } (w.setCells g (46 + n * 2) (decCells (0, 0)))) := by
    have := BlkAt.sets (decCells (0, 0)) HP.out (46 + n * 2)
    rwa [poll_setDec p n Hp.out.told hdl] at this
  have hg2 : Hid (w.grownBy (w.setCells g (46 + n * 2) (decCells (0, 0))) (some g)) := grown_sets g (decCells (0, 0)) w (46 + n * 2)
  have HBe := Lib.hid (fun W => better_any ⟨vl, ve, vc, vp⟩ p.own W)
  rw [qb] at HBe
  clear qb
  unfold balV at HBe
  have Hfit1 : Hid (Poll.fit { p with dec := p.dec.set n (0, 0) }) := ⟨Hp.out.nodes1, Hp.out.nodes7, Hp.out.me, Hp.out.told, by simp [Hp.out.dec]⟩
  have HFr := Lib.hid (fun W hW => fresh_any g { p with dec := p.dec.set n (0, 0) } Hfit1.out vr W hW)
  unfold ptrV at HFr
  clear Hfit1
  have hX : Hid ((w.setCells g (46 + n * 2) (decCells (0, 0))).heap.size = w.heap.size) := by show _ = _; rw [sets_size]
  unfold ptrV votV
  simp only
  go_enter Try.func28, Try.ntmps28
  go_wp2_with (fail)
  refine (HN1.out _ (HPg.out _)).mono ?_
  rintro e w' ⟨rfl, rfl⟩
  go_wp2_with (fail)
  refine (HN2.out _ (HPg.out _)).mono ?_
  rintro e w' ⟨rfl, rfl⟩
  go_wp2
  go_region
  go_wp2
  go_region
  go_wp2_with (fail)
  refine (HFr.out _ (after2 h2.out)).mono ?_
  rintro e w2 ⟨rfl, hP2, hG2⟩
  have hbx : BlkAt (w.heap.size + 1) 95 [.int .i64 vl, .int .i64 ve, .int .i64 vc, .int .i64 vp] w2 := BlkAt.grown (box2 hX.out) hG2 (by intro h; simp only [Option.some.injEq] at h; omega)
  have HG2 := Lib.hid ((after2g hg2.out).trans hG2)
  have hf2 : ∀ i, w2.frozen? ⟨g, i, none⟩ = false := BlkAt.frozen hP2
  have hlt2 : g < w2.heap.size := BlkAt.lt hP2
  have hlt3 : w.heap.size + 1 < w2.heap.size := BlkAt.lt hbx
  have htl : n < (freshP { p with dec := p.dec.set n (0, 0) } vr).told.length := by show n < (noTold.set _ _).length; rw [List.length_set]; exact h7
  have n7 : w2.cell? ⟨g, 7, none⟩ = some (.int .i64 p.own.l) := hP2.cell (by rfl)
  have n8 : w2.cell? ⟨g, 8, none⟩ = some (.int .i64 p.own.e) := hP2.cell (by rfl)
  have n9 : w2.cell? ⟨g, 9, none⟩ = some (.int .i64 p.own.c) := hP2.cell (by rfl)
  have n10 : w2.cell? ⟨g, 10, none⟩ = some (.int .i64 p.own.p) := hP2.cell (by rfl)
  obtain ⟨tt, htt⟩ : ∃ tt, tt = (freshP { p with dec := p.dec.set n (0, 0) } vr).told[n] := ⟨_, rfl⟩
  have t0 : w2.cell? ⟨g, 11 + n * 5, none⟩ = some (.bool tt.1) := hP2.cell (by rw [show 11 + n * 5 = 11 + n * 5 + 0 from rfl, poll_told _ n 0 htl (by omega), ← htt]; rfl)
  have t1 : w2.cell? ⟨g, 11 + n * 5 + 1, none⟩ = some (.int .i64 tt.2.l) := hP2.cell (by rw [poll_told _ n 1 htl (by omega), ← htt]; rfl)
  have t2 : w2.cell? ⟨g, 11 + n * 5 + 2, none⟩ = some (.int .i64 tt.2.e) := hP2.cell (by rw [poll_told _ n 2 htl (by omega), ← htt]; rfl)
  have t3 : w2.cell? ⟨g, 11 + n * 5 + 3, none⟩ = some (.int .i64 tt.2.c) := hP2.cell (by rw [poll_told _ n 3 htl (by omega), ← htt]; rfl)
  have t4 : w2.cell? ⟨g, 11 + n * 5 + 4, none⟩ = some (.int .i64 tt.2.p) := hP2.cell (by rw [poll_told _ n 4 htl (by omega), ← htt]; rfl)
  have x0 : w2.cell? ⟨w.heap.size + 1, 0, none⟩ = some (.int .i64 vl) := hbx.cell (by rfl)
  have x1 : w2.cell? ⟨w.heap.size + 1, 1, none⟩ = some (.int .i64 ve) := hbx.cell (by rfl)
  have x2 : w2.cell? ⟨w.heap.size + 1, 2, none⟩ = some (.int .i64 vc) := hbx.cell (by rfl)
  have x3 : w2.cell? ⟨w.heap.size + 1, 3, none⟩ = some (.int .i64 vp) := hbx.cell (by rfl)
  have HP2 := Lib.hid hP2
  have HBX := Lib.hid hbx
  have Htl := Lib.hid htl
  clear hP2 hG2 hbx htt htl c0 c6 d0 d1 hf
  go_wp2_with (fail)
  go_region
  go_wp2
  go_region_with (first | (go_at_call 48; (with_reducible refine (HBe.out _).mono ?_); rintro e w4 ⟨rfl, hb4⟩))
  all_goals
    have h3 : PollAt g { freshP { p with dec := p.dec.set n (0, 0) } vr with told := (freshP { p with dec := p.dec.set n (0, 0) } vr).told.set n (true, ⟨vl, ve, vc, vp⟩) } (w2.setCells g (11 + n * 5) (toldCells (true, ⟨vl, ve, vc, vp⟩))) := by
      have := BlkAt.sets (toldCells (true, ⟨vl, ve, vc, vp⟩)) HP2.out (11 + n * 5)
      rwa [poll_setTold _ n Htl.out] at this
    have hP4 : PollAt g { freshP { p with dec := p.dec.set n (0, 0) } vr with told := (freshP { p with dec := p.dec.set n (0, 0) } vr).told.set n (true, ⟨vl, ve, vc, vp⟩) } w4 := BlkAt.grew (drew2 h3) hb4
    have hG4 : w.grownBy w4 (some g) := (drew2g (HG2.out.trans (grown_sets g (toldCells (true, ⟨vl, ve, vc, vp⟩)) w2 (11 + n * 5)))).trans (grown_below hb4 _)
    have HP4 := Lib.hid hP4
    have HG4 := Lib.hid hG4
    clear hP4 hG4 hb4 h3
    go_wp2
    go_ret
    exact ⟨rfl, HP4.out, HG4.out⟩
set_option maxRecDepth 100000 in
set_option maxHeartbeats 1600000 in
theorem take_more1 (g : Nat) (p : Poll) (n : Nat) (v : Vot) (w : World) (h : PollAt g p w) (hp : p.fit) (hfn : n < p.nodes) (hfm : n ≠ p.me) (q2 : nodeB p v.b.l = true) (q3 : 1 ≤ v.state) (q4 : v.state ≤ 3) (q5 : 0 ≤ v.round) (q6 : 0 ≤ v.b.p) (q7 : 0 ≤ v.b.e) (q8 : 0 ≤ v.b.c) (qs : v.state = 1) (qr : p.round < v.round) (qb : betterB v.b p.own = true) :
    Calls Try.prog 28 #[ptrV g, .int .i64 (n : Int), votV v] w fun e w' => e = .returned (.int .i64 2) ∧ PollAt g { (freshP { p with dec := p.dec.set n (0, 0) } v.round) with now := v.b, told := ((freshP { p with dec := p.dec.set n (0, 0) } v.round).told.set n (true, v.b)).set p.me (true, v.b) } w' ∧ w.grownBy w' (some g) := by
  have HPg : Hid (∀ o, PollAt g p (w.alloc o)) := fun o => BlkAt.grew h (alloc_below w o)
  have q0 : nodeB p (n : Int) = true := by unfold nodeB; rw [decide_eq_true (by omega), decide_eq_true (by omega)]; rfl
  have HN1 := Lib.hid (fun W hW => node_any g p (n : Int) W hW)
  have HN2 := Lib.hid (fun W hW => node_any g p v.b.l W hW)
  rw [q0] at HN1
  rw [q2] at HN2
  clear q0 q2
  have HB := Lib.hid (alloc_below w)
  have hlt : g < w.heap.size := BlkAt.lt h
  have c0 : w.cell? ⟨g, 0, none⟩ = some (.int .i64 (p.me : Int)) := h.cell (by rfl)
  have c6 : w.cell? ⟨g, 6, none⟩ = some (.int .i64 p.round) := h.cell (by rfl)
  have h7 : n < 7 := by have := hp.nodes7; omega
  have hdl : n < p.dec.length := by rw [hp.dec]; exact h7
  have d0 : w.cell? ⟨g, 46 + n * 2, none⟩ = some (.int .i64 p.dec[n].1) := h.cell (by rw [show 46 + n * 2 = 46 + n * 2 + 0 from rfl, poll_dec p n 0 hp.told hdl (by omega)]; rfl)
  have d1 : w.cell? ⟨g, 46 + n * 2 + 1, none⟩ = some (.int .i64 p.dec[n].2) := h.cell (by rw [poll_dec p n 1 hp.told hdl (by omega)]; rfl)
  have hf : ∀ i, w.frozen? ⟨g, i, none⟩ = false := BlkAt.frozen h
  have e0 : ((n : Int) == (p.me : Int)) = false := by simpa using (fun h => hfm (Int.ofNat.inj h))
  have HP := Lib.hid h
  have Hp := Lib.hid hp
  clear h hp hfm hfn
  obtain ⟨⟨vl, ve, vc, vp⟩, vr, vs⟩ := v
  unfold ptrV at HN1 HN2
  simp only at HN2 q3 q4 q5 q6 q7 q8
  have hm := min4_pos q5 q6 q7 q8
  simp only at qs qr qb
  subst qs
  have r0 : ¬ vr < p.round := by omega
  have h2 : Hid (PollAt g { p with dec := p.dec.set n (0, 0) } (w.setCells g (46 + n * 2) (decCells (0, 0)))) := by
    have := BlkAt.sets (decCells (0, 0)) HP.out (46 + n * 2)
    rwa [poll_setDec p n Hp.out.told hdl] at this
  have hg2 : Hid (w.grownBy (w.setCells g (46 + n * 2) (decCells (0, 0))) (some g)) := grown_sets g (decCells (0, 0)) w (46 + n * 2)
  have HBe := Lib.hid (fun W => better_any ⟨vl, ve, vc, vp⟩ p.own W)
  rw [qb] at HBe
  clear qb
  unfold balV at HBe
  have Hfit1 : Hid (Poll.fit { p with dec := p.dec.set n (0, 0) }) := ⟨Hp.out.nodes1, Hp.out.nodes7, Hp.out.me, Hp.out.told, by simp [Hp.out.dec]⟩
  have HFr := Lib.hid (fun W hW => fresh_any g { p with dec := p.dec.set n (0, 0) } Hfit1.out vr W hW)
  unfold ptrV at HFr
  clear Hfit1
  have hX : Hid ((w.setCells g (46 + n * 2) (decCells (0, 0))).heap.size = w.heap.size) := by show _ = _; rw [sets_size]
  unfold ptrV votV
  simp only
  go_enter Try.func28, Try.ntmps28
  go_wp2_with (fail)
  refine (HN1.out _ (HPg.out _)).mono ?_
  rintro e w' ⟨rfl, rfl⟩
  go_wp2_with (fail)
  refine (HN2.out _ (HPg.out _)).mono ?_
  rintro e w' ⟨rfl, rfl⟩
  go_wp2
  go_region
  go_wp2
  go_region
  go_wp2_with (fail)
  refine (HFr.out _ (after2 h2.out)).mono ?_
  rintro e w2 ⟨rfl, hP2, hG2⟩
  have hbx : BlkAt (w.heap.size + 1) 95 [.int .i64 vl, .int .i64 ve, .int .i64 vc, .int .i64 vp] w2 := BlkAt.grown (box2 hX.out) hG2 (by intro h; simp only [Option.some.injEq] at h; omega)
  have HG2 := Lib.hid ((after2g hg2.out).trans hG2)
  have hf2 : ∀ i, w2.frozen? ⟨g, i, none⟩ = false := BlkAt.frozen hP2
  have hlt2 : g < w2.heap.size := BlkAt.lt hP2
  have hlt3 : w.heap.size + 1 < w2.heap.size := BlkAt.lt hbx
  have htl : n < (freshP { p with dec := p.dec.set n (0, 0) } vr).told.length := by show n < (noTold.set _ _).length; rw [List.length_set]; exact h7
  have n7 : w2.cell? ⟨g, 7, none⟩ = some (.int .i64 p.own.l) := hP2.cell (by rfl)
  have n8 : w2.cell? ⟨g, 8, none⟩ = some (.int .i64 p.own.e) := hP2.cell (by rfl)
  have n9 : w2.cell? ⟨g, 9, none⟩ = some (.int .i64 p.own.c) := hP2.cell (by rfl)
  have n10 : w2.cell? ⟨g, 10, none⟩ = some (.int .i64 p.own.p) := hP2.cell (by rfl)
  obtain ⟨tt, htt⟩ : ∃ tt, tt = (freshP { p with dec := p.dec.set n (0, 0) } vr).told[n] := ⟨_, rfl⟩
  have t0 : w2.cell? ⟨g, 11 + n * 5, none⟩ = some (.bool tt.1) := hP2.cell (by rw [show 11 + n * 5 = 11 + n * 5 + 0 from rfl, poll_told _ n 0 htl (by omega), ← htt]; rfl)
  have t1 : w2.cell? ⟨g, 11 + n * 5 + 1, none⟩ = some (.int .i64 tt.2.l) := hP2.cell (by rw [poll_told _ n 1 htl (by omega), ← htt]; rfl)
  have t2 : w2.cell? ⟨g, 11 + n * 5 + 2, none⟩ = some (.int .i64 tt.2.e) := hP2.cell (by rw [poll_told _ n 2 htl (by omega), ← htt]; rfl)
  have t3 : w2.cell? ⟨g, 11 + n * 5 + 3, none⟩ = some (.int .i64 tt.2.c) := hP2.cell (by rw [poll_told _ n 3 htl (by omega), ← htt]; rfl)
  have t4 : w2.cell? ⟨g, 11 + n * 5 + 4, none⟩ = some (.int .i64 tt.2.p) := hP2.cell (by rw [poll_told _ n 4 htl (by omega), ← htt]; rfl)
  have x0 : w2.cell? ⟨w.heap.size + 1, 0, none⟩ = some (.int .i64 vl) := hbx.cell (by rfl)
  have x1 : w2.cell? ⟨w.heap.size + 1, 1, none⟩ = some (.int .i64 ve) := hbx.cell (by rfl)
  have x2 : w2.cell? ⟨w.heap.size + 1, 2, none⟩ = some (.int .i64 vc) := hbx.cell (by rfl)
  have x3 : w2.cell? ⟨w.heap.size + 1, 3, none⟩ = some (.int .i64 vp) := hbx.cell (by rfl)
  have HP2 := Lib.hid hP2
  have HBX := Lib.hid hbx
  have Htl := Lib.hid htl
  clear hP2 hG2 hbx htt htl c0 c6 d0 d1 hf
  go_wp2_with (fail)
  go_region
  go_wp2
  go_region_with (first | (go_at_call 48; (with_reducible refine (HBe.out _).mono ?_); rintro e w4 ⟨rfl, hb4⟩))
  all_goals
    have h3 : PollAt g { freshP { p with dec := p.dec.set n (0, 0) } vr with told := (freshP { p with dec := p.dec.set n (0, 0) } vr).told.set n (true, ⟨vl, ve, vc, vp⟩) } (w2.setCells g (11 + n * 5) (toldCells (true, ⟨vl, ve, vc, vp⟩))) := by
      have := BlkAt.sets (toldCells (true, ⟨vl, ve, vc, vp⟩)) HP2.out (11 + n * 5)
      rwa [poll_setTold _ n Htl.out] at this
    have hP4 : PollAt g { freshP { p with dec := p.dec.set n (0, 0) } vr with told := (freshP { p with dec := p.dec.set n (0, 0) } vr).told.set n (true, ⟨vl, ve, vc, vp⟩) } w4 := BlkAt.grew (drew2 h3) hb4
    have hG4 : w.grownBy w4 (some g) := (drew2g (HG2.out.trans (grown_sets g (toldCells (true, ⟨vl, ve, vc, vp⟩)) w2 (11 + n * 5)))).trans (grown_below hb4 _)
    have HP4 := Lib.hid hP4
    have HG4 := Lib.hid hG4
    have hbx4 : BlkAt (w.heap.size + 1) 95 [.int .i64 vl, .int .i64 ve, .int .i64 vc, .int .i64 vp] w4 := by
      have hg5 := (drew2g (grown_sets g (toldCells (true, ⟨vl, ve, vc, vp⟩)) w2 (11 + n * 5))).trans (grown_below hb4 _)
      exact BlkAt.grown HBX.out hg5 (by intro h; simp only [Option.some.injEq] at h; omega)
    have x0 : w4.cell? ⟨w.heap.size + 1, 0, none⟩ = some (.int .i64 vl) := hbx4.cell (by rfl)
    have x1 : w4.cell? ⟨w.heap.size + 1, 1, none⟩ = some (.int .i64 ve) := hbx4.cell (by rfl)
    have x2 : w4.cell? ⟨w.heap.size + 1, 2, none⟩ = some (.int .i64 vc) := hbx4.cell (by rfl)
    have x3 : w4.cell? ⟨w.heap.size + 1, 3, none⟩ = some (.int .i64 vp) := hbx4.cell (by rfl)
    have Hfit3 : Hid (Poll.fit { freshP { p with dec := p.dec.set n (0, 0) } vr with told := (freshP { p with dec := p.dec.set n (0, 0) } vr).told.set n (true, ⟨vl, ve, vc, vp⟩) }) := ⟨Hp.out.nodes1, Hp.out.nodes7, Hp.out.me, by simp [freshP, noTold], by simp [freshP, Hp.out.dec]⟩
    have HV := Lib.hid (fun W hW => vote_any g { freshP { p with dec := p.dec.set n (0, 0) } vr with told := (freshP { p with dec := p.dec.set n (0, 0) } vr).told.set n (true, ⟨vl, ve, vc, vp⟩) } Hfit3.out ⟨vl, ve, vc, vp⟩ W hW)
    unfold ptrV balV at HV
    clear hP4 hG4 hb4 h3 hbx4 Hfit3
    go_wp2_with (fail)
    refine (HV.out _ HP4.out).mono ?_
    rintro e w5 ⟨rfl, hP5, hG5⟩
    go_wp2
    go_ret
    exact ⟨rfl, hP5, HG4.out.trans hG5⟩
end Go.Proofs.Ytaahbfcnccmcoaa
