/- The walk of Take, where it heeds. Conditions: as each theorem says. -/
import Derived.Test.YtaahbfcnccmcoaaVoteD
namespace Go.Proofs.Ytaahbfcnccmcoaa
open Go.RowKit

theorem after4 {g : Nat} {p : Poll} {X : World} {o1 o2 : Obj} (h : PollAt g p X) : PollAt g p ((X.alloc o1).alloc o2).drew.drew.drew.drew := BlkAt.drew (BlkAt.drew (BlkAt.drew (BlkAt.drew (BlkAt.grew (BlkAt.grew h (alloc_below _ o1)) (alloc_below _ o2)))))
theorem sets_size (g : Nat) (vs : List Value) : ∀ (w : World) (o : Nat), (w.setCells g o vs).heap.size = w.heap.size := by
  induction vs with
  | nil => intro w o; rfl
  | cons v vs ih => intro w o; rw [World.setCells, ih, World.size_setCell]
theorem box4 {w X : World} {o1 : Obj} {cs : Array Value} {t : TypeId} (hX : X.heap.size = w.heap.size) : BlkAt (w.heap.size + 1) t cs.toList ((X.alloc o1).alloc (.cells cs t)).drew.drew.drew.drew := by
  have h := heap_alloc_new (X.alloc o1) (.cells cs t)
  have e : (X.alloc o1).heap.size = w.heap.size + 1 := by simp [hX]
  rw [e] at h
  unfold BlkAt
  rw [show cs.toList.toArray = cs by simp]
  exact h
theorem after4g {w X : World} {row : Option Nat} {o1 o2 : Obj} (h : w.grownBy X row) : w.grownBy ((X.alloc o1).alloc o2).drew.drew.drew.drew row := (((((h.trans (World.grownBy_alloc _ _ _)).trans (World.grownBy_alloc _ _ _)).trans (grown_drew _ _)).trans (grown_drew _ _)).trans (grown_drew _ _)).trans (grown_drew _ _)
theorem take_fit (p : Poll) (n : Nat) (t : Bool × Bal) (d : Int × Int) (h : p.fit) : Poll.fit { p with dec := p.dec.set n d, told := p.told.set n t } := ⟨h.nodes1, h.nodes7, h.me, by simp [h.told], by simp [h.dec]⟩
theorem after2 {g : Nat} {p : Poll} {X : World} {o1 o2 : Obj} (h : PollAt g p X) : PollAt g p ((X.alloc o1).alloc o2).drew.drew := BlkAt.drew (BlkAt.drew (BlkAt.grew (BlkAt.grew h (alloc_below _ o1)) (alloc_below _ o2)))
theorem after2g {w X : World} {row : Option Nat} {o1 o2 : Obj} (h : w.grownBy X row) : w.grownBy ((X.alloc o1).alloc o2).drew.drew row := (((h.trans (World.grownBy_alloc _ _ _)).trans (World.grownBy_alloc _ _ _)).trans (grown_drew _ _)).trans (grown_drew _ _)
theorem box2 {w X : World} {o1 : Obj} {cs : Array Value} {t : TypeId} (hX : X.heap.size = w.heap.size) : BlkAt (w.heap.size + 1) t cs.toList ((X.alloc o1).alloc (.cells cs t)).drew.drew := by
  have h := heap_alloc_new (X.alloc o1) (.cells cs t)
  have e : (X.alloc o1).heap.size = w.heap.size + 1 := by simp [hX]
  rw [e] at h
  unfold BlkAt
  rw [show cs.toList.toArray = cs by simp]
  exact h
theorem drew2 {g : Nat} {p : Poll} {X : World} (h : PollAt g p X) : PollAt g p X.drew.drew := BlkAt.drew (BlkAt.drew h)
theorem drew2g {w X : World} {row : Option Nat} (h : w.grownBy X row) : w.grownBy X.drew.drew row := (h.trans (grown_drew _ _)).trans (grown_drew _ _)
theorem drew2b {g : Nat} {T : TypeId} {cs : List Value} {X : World} (h : BlkAt g T cs X) : BlkAt g T cs X.drew.drew := BlkAt.drew (BlkAt.drew h)
set_option maxRecDepth 100000 in
set_option maxHeartbeats 1600000 in
theorem take_dec (g : Nat) (p : Poll) (n : Nat) (v : Vot) (w : World) (h : PollAt g p w) (hp : p.fit) (hfn : n < p.nodes) (hfm : n ≠ p.me) (q2 : nodeB p v.b.l = true) (q3 : 1 ≤ v.state) (q4 : v.state ≤ 3) (q5 : 0 ≤ v.round) (q6 : 0 ≤ v.b.p) (q7 : 0 ≤ v.b.e) (q8 : 0 ≤ v.b.c) (qs : v.state ≠ 1) :
    Calls Try.prog 28 #[ptrV g, .int .i64 (n : Int), votV v] w fun e w' => e = .returned (.int .i64 0) ∧ PollAt g { p with dec := p.dec.set n (v.b.l, v.state) } w' ∧ w.grownBy w' (some g) := by
  have HPg : Hid (∀ o, PollAt g p (w.alloc o)) := fun o => BlkAt.grew h (alloc_below w o)
  have q0 : nodeB p (n : Int) = true := by unfold nodeB; rw [decide_eq_true (by omega), decide_eq_true (by omega)]; rfl
  have HN1 := Lib.hid (fun W hW => node_any g p (n : Int) W hW)
  have HN2 := Lib.hid (fun W hW => node_any g p v.b.l W hW)
  rw [q0] at HN1
  rw [q2] at HN2
  clear q0 q2
  have HB := Lib.hid (alloc_below w)
  have hlt : g < w.heap.size := BlkAt.lt h
  have c0 : w.cell? ⟨g, 0, none⟩ = some (.int .i64 (p.me : Int)) := h.cell (by rfl)
  have c6 : w.cell? ⟨g, 6, none⟩ = some (.int .i64 p.round) := h.cell (by rfl)
  have h7 : n < 7 := by have := hp.nodes7; omega
  have hdl : n < p.dec.length := by rw [hp.dec]; exact h7
  have d0 : w.cell? ⟨g, 46 + n * 2, none⟩ = some (.int .i64 p.dec[n].1) := h.cell (by rw [show 46 + n * 2 = 46 + n * 2 + 0 from rfl, poll_dec p n 0 hp.told hdl (by omega)]; rfl)
  have d1 : w.cell? ⟨g, 46 + n * 2 + 1, none⟩ = some (.int .i64 p.dec[n].2) := h.cell (by rw [poll_dec p n 1 hp.told hdl (by omega)]; rfl)
  have hf : ∀ i, w.frozen? ⟨g, i, none⟩ = false := BlkAt.frozen h
  have e0 : ((n : Int) == (p.me : Int)) = false := by simpa using (fun h => hfm (Int.ofNat.inj h))
  have HP := Lib.hid h
  have Hp := Lib.hid hp
  clear h hp hfm hfn
  obtain ⟨⟨vl, ve, vc, vp⟩, vr, vs⟩ := v
  unfold ptrV at HN1 HN2
  simp only at HN2 q3 q4 q5 q6 q7 q8
  have hm := min4_pos q5 q6 q7 q8
  have s1 : (vs == 1) = false := by simpa using qs
  have s2 : (vs != 1) = true := by simpa using qs
  clear qs
  unfold ptrV votV
  simp only
  go_enter Try.func28, Try.ntmps28
  go_wp2_with (fail)
  refine (HN1.out _ (HPg.out _)).mono ?_
  rintro e w' ⟨rfl, rfl⟩
  go_wp2_with (fail)
  refine (HN2.out _ (HPg.out _)).mono ?_
  rintro e w' ⟨rfl, rfl⟩
  go_wp2
  go_region
  go_wp2
  go_ret
  refine ⟨rfl, ?_, ?_⟩
  · have h2 : PollAt g { p with dec := p.dec.set n (vl, vs) } (w.setCells g (46 + n * 2) (decCells (vl, vs))) := by
      have := BlkAt.sets (decCells (vl, vs)) HP.out (46 + n * 2)
      rwa [poll_setDec p n Hp.out.told hdl] at this
    exact BlkAt.drew (BlkAt.grew h2 (alloc_below _ _))
  · exact ((grown_sets g (decCells (vl, vs)) w (46 + n * 2)).trans (World.grownBy_alloc _ _ _)).trans (grown_drew _ _)
set_option maxRecDepth 100000 in
set_option maxHeartbeats 1600000 in
theorem take_old (g : Nat) (p : Poll) (n : Nat) (v : Vot) (w : World) (h : PollAt g p w) (hp : p.fit) (hfn : n < p.nodes) (hfm : n ≠ p.me) (q2 : nodeB p v.b.l = true) (q3 : 1 ≤ v.state) (q4 : v.state ≤ 3) (q5 : 0 ≤ v.round) (q6 : 0 ≤ v.b.p) (q7 : 0 ≤ v.b.e) (q8 : 0 ≤ v.b.c) (qs : v.state = 1) (qr : v.round < p.round) :
    Calls Try.prog 28 #[ptrV g, .int .i64 (n : Int), votV v] w fun e w' => e = .returned (.int .i64 1) ∧ PollAt g { p with dec := p.dec.set n (0, 0) } w' ∧ w.grownBy w' (some g) := by
  have HPg : Hid (∀ o, PollAt g p (w.alloc o)) := fun o => BlkAt.grew h (alloc_below w o)
  have q0 : nodeB p (n : Int) = true := by unfold nodeB; rw [decide_eq_true (by omega), decide_eq_true (by omega)]; rfl
  have HN1 := Lib.hid (fun W hW => node_any g p (n : Int) W hW)
  have HN2 := Lib.hid (fun W hW => node_any g p v.b.l W hW)
  rw [q0] at HN1
  rw [q2] at HN2
  clear q0 q2
  have HB := Lib.hid (alloc_below w)
  have hlt : g < w.heap.size := BlkAt.lt h
  have c0 : w.cell? ⟨g, 0, none⟩ = some (.int .i64 (p.me : Int)) := h.cell (by rfl)
  have c6 : w.cell? ⟨g, 6, none⟩ = some (.int .i64 p.round) := h.cell (by rfl)
  have h7 : n < 7 := by have := hp.nodes7; omega
  have hdl : n < p.dec.length := by rw [hp.dec]; exact h7
  have d0 : w.cell? ⟨g, 46 + n * 2, none⟩ = some (.int .i64 p.dec[n].1) := h.cell (by rw [show 46 + n * 2 = 46 + n * 2 + 0 from rfl, poll_dec p n 0 hp.told hdl (by omega)]; rfl)
  have d1 : w.cell? ⟨g, 46 + n * 2 + 1, none⟩ = some (.int .i64 p.dec[n].2) := h.cell (by rw [poll_dec p n 1 hp.told hdl (by omega)]; rfl)
  have hf : ∀ i, w.frozen? ⟨g, i, none⟩ = false := BlkAt.frozen h
  have e0 : ((n : Int) == (p.me : Int)) = false := by simpa using (fun h => hfm (Int.ofNat.inj h))
  have HP := Lib.hid h
  have Hp := Lib.hid hp
  clear h hp hfm hfn
  obtain ⟨⟨vl, ve, vc, vp⟩, vr, vs⟩ := v
  unfold ptrV at HN1 HN2
  simp only at HN2 q3 q4 q5 q6 q7 q8
  have hm := min4_pos q5 q6 q7 q8
  simp only at qs qr
  subst qs
  have h2 : Hid (PollAt g { p with dec := p.dec.set n (0, 0) } (w.setCells g (46 + n * 2) (decCells (0, 0)))) := by
    have := BlkAt.sets (decCells (0, 0)) HP.out (46 + n * 2)
    rwa [poll_setDec p n Hp.out.told hdl] at this
  have hg2 : Hid (w.grownBy (w.setCells g (46 + n * 2) (decCells (0, 0))) (some g)) := grown_sets g (decCells (0, 0)) w (46 + n * 2)
  unfold ptrV votV
  simp only
  go_enter Try.func28, Try.ntmps28
  go_wp2_with (fail)
  refine (HN1.out _ (HPg.out _)).mono ?_
  rintro e w' ⟨rfl, rfl⟩
  go_wp2_with (fail)
  refine (HN2.out _ (HPg.out _)).mono ?_
  rintro e w' ⟨rfl, rfl⟩
  go_wp2
  go_region
  go_wp2
  go_ret
  exact ⟨rfl, BlkAt.drew (BlkAt.grew (BlkAt.grew h2.out (alloc_below _ _)) (alloc_below _ _)), ((hg2.out.trans (World.grownBy_alloc _ _ _)).trans (World.grownBy_alloc _ _ _)).trans (grown_drew _ _)⟩
set_option maxRecDepth 100000 in
set_option maxHeartbeats 1600000 in
theorem take_same0 (g : Nat) (p : Poll) (n : Nat) (v : Vot) (w : World) (h : PollAt g p w) (hp : p.fit) (hfn : n < p.nodes) (hfm : n ≠ p.me) (q2 : nodeB p v.b.l = true) (q3 : 1 ≤ v.state) (q4 : v.state ≤ 3) (q5 : 0 ≤ v.round) (q6 : 0 ≤ v.b.p) (q7 : 0 ≤ v.b.e) (q8 : 0 ≤ v.b.c) (qs : v.state = 1) (qr : v.round = p.round) (qb : betterB v.b p.now = false) :
    Calls Try.prog 28 #[ptrV g, .int .i64 (n : Int), votV v] w fun e w' => e = .returned (.int .i64 0) ∧ PollAt g { p with dec := p.dec.set n (0, 0), told := p.told.set n (true, v.b) } w' ∧ w.grownBy w' (some g) := by
  have HPg : Hid (∀ o, PollAt g p (w.alloc o)) := fun o => BlkAt.grew h (alloc_below w o)
  have q0 : nodeB p (n : Int) = true := by unfold nodeB; rw [decide_eq_true (by omega), decide_eq_true (by omega)]; rfl
  have HN1 := Lib.hid (fun W hW => node_any g p (n : Int) W hW)
  have HN2 := Lib.hid (fun W hW => node_any g p v.b.l W hW)
  rw [q0] at HN1
  rw [q2] at HN2
  clear q0 q2
  have HB := Lib.hid (alloc_below w)
  have hlt : g < w.heap.size := BlkAt.lt h
  have c0 : w.cell? ⟨g, 0, none⟩ = some (.int .i64 (p.me : Int)) := h.cell (by rfl)
  have c6 : w.cell? ⟨g, 6, none⟩ = some (.int .i64 p.round) := h.cell (by rfl)
  have h7 : n < 7 := by have := hp.nodes7; omega
  have hdl : n < p.dec.length := by rw [hp.dec]; exact h7
  have d0 : w.cell? ⟨g, 46 + n * 2, none⟩ = some (.int .i64 p.dec[n].1) := h.cell (by rw [show 46 + n * 2 = 46 + n * 2 + 0 from rfl, poll_dec p n 0 hp.told hdl (by omega)]; rfl)
  have d1 : w.cell? ⟨g, 46 + n * 2 + 1, none⟩ = some (.int .i64 p.dec[n].2) := h.cell (by rw [poll_dec p n 1 hp.told hdl (by omega)]; rfl)
  have hf : ∀ i, w.frozen? ⟨g, i, none⟩ = false := BlkAt.frozen h
  have e0 : ((n : Int) == (p.me : Int)) = false := by simpa using (fun h => hfm (Int.ofNat.inj h))
  have HP := Lib.hid h
  have Hp := Lib.hid hp
  clear h hp hfm hfn
  obtain ⟨⟨vl, ve, vc, vp⟩, vr, vs⟩ := v
  unfold ptrV at HN1 HN2
  simp only at HN2 q3 q4 q5 q6 q7 q8
  have hm := min4_pos q5 q6 q7 q8
  simp only at qs qr qb
  subst qs qr
  have r0 : ¬ p.round < p.round := by omega
  have htl : n < p.told.length := by rw [Hp.out.told]; exact h7
  have t0 : w.cell? ⟨g, 11 + n * 5, none⟩ = some (.bool p.told[n].1) := HP.out.cell (by rw [show 11 + n * 5 = 11 + n * 5 + 0 from rfl, poll_told p n 0 htl (by omega)]; rfl)
  have t1 : w.cell? ⟨g, 11 + n * 5 + 1, none⟩ = some (.int .i64 p.told[n].2.l) := HP.out.cell (by rw [poll_told p n 1 htl (by omega)]; rfl)
  have t2 : w.cell? ⟨g, 11 + n * 5 + 2, none⟩ = some (.int .i64 p.told[n].2.e) := HP.out.cell (by rw [poll_told p n 2 htl (by omega)]; rfl)
  have t3 : w.cell? ⟨g, 11 + n * 5 + 3, none⟩ = some (.int .i64 p.told[n].2.c) := HP.out.cell (by rw [poll_told p n 3 htl (by omega)]; rfl)
  have t4 : w.cell? ⟨g, 11 + n * 5 + 4, none⟩ = some (.int .i64 p.told[n].2.p) := HP.out.cell (by rw [poll_told p n 4 htl (by omega)]; rfl)
  have n7 : w.cell? ⟨g, 7, none⟩ = some (.int .i64 p.now.l) := HP.out.cell (by rfl)
  have n8 : w.cell? ⟨g, 8, none⟩ = some (.int .i64 p.now.e) := HP.out.cell (by rfl)
  have n9 : w.cell? ⟨g, 9, none⟩ = some (.int .i64 p.now.c) := HP.out.cell (by rfl)
  have n10 : w.cell? ⟨g, 10, none⟩ = some (.int .i64 p.now.p) := HP.out.cell (by rfl)
  have h2 : Hid (PollAt g { p with dec := p.dec.set n (0, 0) } (w.setCells g (46 + n * 2) (decCells (0, 0)))) := by
    have := BlkAt.sets (decCells (0, 0)) HP.out (46 + n * 2)
    rwa [poll_setDec p n Hp.out.told hdl] at this
  have hg2 : Hid (w.grownBy (w.setCells g (46 + n * 2) (decCells (0, 0))) (some g)) := grown_sets g (decCells (0, 0)) w (46 + n * 2)
  have HBe := Lib.hid (fun W => better_any ⟨vl, ve, vc, vp⟩ p.now W)
  rw [qb] at HBe
  clear qb
  unfold balV at HBe
  unfold ptrV votV
  simp only
  go_enter Try.func28, Try.ntmps28
  go_wp2_with (fail)
  refine (HN1.out _ (HPg.out _)).mono ?_
  rintro e w' ⟨rfl, rfl⟩
  go_wp2_with (fail)
  refine (HN2.out _ (HPg.out _)).mono ?_
  rintro e w' ⟨rfl, rfl⟩
  go_wp2
  go_region
  go_wp2
  go_region
  go_wp2
  go_region
  go_wp2
  go_region_with (first | (go_at_call 48; (with_reducible refine (HBe.out _).mono ?_); rintro e w4 ⟨rfl, hb4⟩))
  all_goals
    have h3 : PollAt g { p with dec := p.dec.set n (0, 0), told := p.told.set n (true, ⟨vl, ve, vc, vp⟩) } ((w.setCells g (46 + n * 2) (decCells (0, 0))).setCells g (11 + n * 5) (toldCells (true, ⟨vl, ve, vc, vp⟩))) := by
      have := BlkAt.sets (toldCells (true, ⟨vl, ve, vc, vp⟩)) h2.out (11 + n * 5)
      rwa [poll_setTold { p with dec := p.dec.set n (0, 0) } n htl] at this
    have H3 := Lib.hid h3
    have hg3 : Hid (w.grownBy ((w.setCells g (46 + n * 2) (decCells (0, 0))).setCells g (11 + n * 5) (toldCells (true, ⟨vl, ve, vc, vp⟩))) (some g)) := hg2.out.trans (grown_sets g _ _ _)
    have Hfit3 := Lib.hid (take_fit p n (true, ⟨vl, ve, vc, vp⟩) (0, 0) Hp.out)
    clear h3

    have hP4 : PollAt g { p with dec := p.dec.set n (0, 0), told := p.told.set n (true, ⟨vl, ve, vc, vp⟩) } w4 := BlkAt.grew (after4 H3.out) hb4
    have hG4 : w.grownBy w4 (some g) := (after4g hg3.out).trans (grown_below hb4 _)
    have HP4 := Lib.hid hP4
    have HG4 := Lib.hid hG4
    clear hP4 hG4 hb4
    go_wp2
    go_ret
    exact ⟨rfl, HP4.out, HG4.out⟩
set_option maxRecDepth 100000 in
set_option maxHeartbeats 1600000 in
theorem take_same1 (g : Nat) (p : Poll) (n : Nat) (v : Vot) (w : World) (h : PollAt g p w) (hp : p.fit) (hfn : n < p.nodes) (hfm : n ≠ p.me) (q2 : nodeB p v.b.l = true) (q3 : 1 ≤ v.state) (q4 : v.state ≤ 3) (q5 : 0 ≤ v.round) (q6 : 0 ≤ v.b.p) (q7 : 0 ≤ v.b.e) (q8 : 0 ≤ v.b.c) (qs : v.state = 1) (qr : v.round = p.round) (qb : betterB v.b p.now = true) :
    Calls Try.prog 28 #[ptrV g, .int .i64 (n : Int), votV v] w fun e w' => e = .returned (.int .i64 2) ∧ PollAt g { p with dec := p.dec.set n (0, 0), now := v.b, told := (p.told.set n (true, v.b)).set p.me (true, v.b) } w' ∧ w.grownBy w' (some g) := by
  have HPg : Hid (∀ o, PollAt g p (w.alloc o)) := fun o => BlkAt.grew h (alloc_below w o)
  have q0 : nodeB p (n : Int) = true := by unfold nodeB; rw [decide_eq_true (by omega), decide_eq_true (by omega)]; rfl
  have HN1 := Lib.hid (fun W hW => node_any g p (n : Int) W hW)
  have HN2 := Lib.hid (fun W hW => node_any g p v.b.l W hW)
  rw [q0] at HN1
  rw [q2] at HN2
  clear q0 q2
  have HB := Lib.hid (alloc_below w)
  have hlt : g < w.heap.size := BlkAt.lt h
  have c0 : w.cell? ⟨g, 0, none⟩ = some (.int .i64 (p.me : Int)) := h.cell (by rfl)
  have c6 : w.cell? ⟨g, 6, none⟩ = some (.int .i64 p.round) := h.cell (by rfl)
  have h7 : n < 7 := by have := hp.nodes7; omega
  have hdl : n < p.dec.length := by rw [hp.dec]; exact h7
  have d0 : w.cell? ⟨g, 46 + n * 2, none⟩ = some (.int .i64 p.dec[n].1) := h.cell (by rw [show 46 + n * 2 = 46 + n * 2 + 0 from rfl, poll_dec p n 0 hp.told hdl (by omega)]; rfl)
  have d1 : w.cell? ⟨g, 46 + n * 2 + 1, none⟩ = some (.int .i64 p.dec[n].2) := h.cell (by rw [poll_dec p n 1 hp.told hdl (by omega)]; rfl)
  have hf : ∀ i, w.frozen? ⟨g, i, none⟩ = false := BlkAt.frozen h
  have e0 : ((n : Int) == (p.me : Int)) = false := by simpa using (fun h => hfm (Int.ofNat.inj h))
  have HP := Lib.hid h
  have Hp := Lib.hid hp
  clear h hp hfm hfn
  obtain ⟨⟨vl, ve, vc, vp⟩, vr, vs⟩ := v
  unfold ptrV at HN1 HN2
  simp only at HN2 q3 q4 q5 q6 q7 q8
  have hm := min4_pos q5 q6 q7 q8
  simp only at qs qr qb
  subst qs qr
  have r0 : ¬ p.round < p.round := by omega
  have htl : n < p.told.length := by rw [Hp.out.told]; exact h7
  have t0 : w.cell? ⟨g, 11 + n * 5, none⟩ = some (.bool p.told[n].1) := HP.out.cell (by rw [show 11 + n * 5 = 11 + n * 5 + 0 from rfl, poll_told p n 0 htl (by omega)]; rfl)
  have t1 : w.cell? ⟨g, 11 + n * 5 + 1, none⟩ = some (.int .i64 p.told[n].2.l) := HP.out.cell (by rw [poll_told p n 1 htl (by omega)]; rfl)
  have t2 : w.cell? ⟨g, 11 + n * 5 + 2, none⟩ = some (.int .i64 p.told[n].2.e) := HP.out.cell (by rw [poll_told p n 2 htl (by omega)]; rfl)
  have t3 : w.cell? ⟨g, 11 + n * 5 + 3, none⟩ = some (.int .i64 p.told[n].2.c) := HP.out.cell (by rw [poll_told p n 3 htl (by omega)]; rfl)
  have t4 : w.cell? ⟨g, 11 + n * 5 + 4, none⟩ = some (.int .i64 p.told[n].2.p) := HP.out.cell (by rw [poll_told p n 4 htl (by omega)]; rfl)
  have n7 : w.cell? ⟨g, 7, none⟩ = some (.int .i64 p.now.l) := HP.out.cell (by rfl)
  have n8 : w.cell? ⟨g, 8, none⟩ = some (.int .i64 p.now.e) := HP.out.cell (by rfl)
  have n9 : w.cell? ⟨g, 9, none⟩ = some (.int .i64 p.now.c) := HP.out.cell (by rfl)
  have n10 : w.cell? ⟨g, 10, none⟩ = some (.int .i64 p.now.p) := HP.out.cell (by rfl)
  have h2 : Hid (PollAt g { p with dec := p.dec.set n (0, 0) } (w.setCells g (46 + n * 2) (decCells (0, 0)))) := by
    have := BlkAt.sets (decCells (0, 0)) HP.out (46 + n * 2)
    rwa [poll_setDec p n Hp.out.told hdl] at this
  have hg2 : Hid (w.grownBy (w.setCells g (46 + n * 2) (decCells (0, 0))) (some g)) := grown_sets g (decCells (0, 0)) w (46 + n * 2)
  have HBe := Lib.hid (fun W => better_any ⟨vl, ve, vc, vp⟩ p.now W)
  rw [qb] at HBe
  clear qb
  unfold balV at HBe
  unfold ptrV votV
  simp only
  go_enter Try.func28, Try.ntmps28
  go_wp2_with (fail)
  refine (HN1.out _ (HPg.out _)).mono ?_
  rintro e w' ⟨rfl, rfl⟩
  go_wp2_with (fail)
  refine (HN2.out _ (HPg.out _)).mono ?_
  rintro e w' ⟨rfl, rfl⟩
  go_wp2
  go_region
  go_wp2
  go_region
  go_wp2
  go_region
  go_wp2
  go_region_with (first | (go_at_call 48; (with_reducible refine (HBe.out _).mono ?_); rintro e w4 ⟨rfl, hb4⟩))
  all_goals
    have h3 : PollAt g { p with dec := p.dec.set n (0, 0), told := p.told.set n (true, ⟨vl, ve, vc, vp⟩) } ((w.setCells g (46 + n * 2) (decCells (0, 0))).setCells g (11 + n * 5) (toldCells (true, ⟨vl, ve, vc, vp⟩))) := by
      have := BlkAt.sets (toldCells (true, ⟨vl, ve, vc, vp⟩)) h2.out (11 + n * 5)
      rwa [poll_setTold { p with dec := p.dec.set n (0, 0) } n htl] at this
    have H3 := Lib.hid h3
    have hg3 : Hid (w.grownBy ((w.setCells g (46 + n * 2) (decCells (0, 0))).setCells g (11 + n * 5) (toldCells (true, ⟨vl, ve, vc, vp⟩))) (some g)) := hg2.out.trans (grown_sets g _ _ _)
    have Hfit3 := Lib.hid (take_fit p n (true, ⟨vl, ve, vc, vp⟩) (0, 0) Hp.out)
    clear h3
    have HV := Lib.hid (fun W hW => vote_any g { p with dec := p.dec.set n (0, 0), told := p.told.set n (true, ⟨vl, ve, vc, vp⟩) } Hfit3.out ⟨vl, ve, vc, vp⟩ W hW)
    unfold ptrV balV at HV

    have hP4 : PollAt g { p with dec := p.dec.set n (0, 0), told := p.told.set n (true, ⟨vl, ve, vc, vp⟩) } w4 := BlkAt.grew (after4 H3.out) hb4
    have hG4 : w.grownBy w4 (some g) := (after4g hg3.out).trans (grown_below hb4 _)
    have HP4 := Lib.hid hP4
    have HG4 := Lib.hid hG4
    have hX : ((w.setCells g (46 + n * 2) (decCells (0, 0))).setCells g (11 + n * 5) (toldCells (true, ⟨vl, ve, vc, vp⟩))).heap.size = w.heap.size := by rw [sets_size, sets_size]
    have hbx : BlkAt (w.heap.size + 1) 95 [.int .i64 vl, .int .i64 ve, .int .i64 vc, .int .i64 vp] w4 := BlkAt.grew (box4 hX) hb4
    have x0 : w4.cell? ⟨w.heap.size + 1, 0, none⟩ = some (.int .i64 vl) := hbx.cell (by rfl)
    have x1 : w4.cell? ⟨w.heap.size + 1, 1, none⟩ = some (.int .i64 ve) := hbx.cell (by rfl)
    have x2 : w4.cell? ⟨w.heap.size + 1, 2, none⟩ = some (.int .i64 vc) := hbx.cell (by rfl)
    have x3 : w4.cell? ⟨w.heap.size + 1, 3, none⟩ = some (.int .i64 vp) := hbx.cell (by rfl)
    clear hX hbx
    clear hP4 hG4 hb4
    go_wp2_with (fail)
    refine (HV.out _ HP4.out).mono ?_
    rintro e w5 ⟨rfl, hP5, hG5⟩
    go_wp2
    go_ret
    exact ⟨rfl, hP5, HG4.out.trans hG5⟩
end Go.Proofs.Ytaahbfcnccmcoaa
