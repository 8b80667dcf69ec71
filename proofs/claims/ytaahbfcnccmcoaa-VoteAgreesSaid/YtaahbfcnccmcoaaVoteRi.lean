/- The walk of what the reference's Take refuses (printed by gen/genVoteRi.py). Conditions: as each theorem says. -/
import Derived.Test.YtaahbfcnccmcoaaVoteRh
import Derived.Deep.QuietTactic
import Derived.BigQuiet
namespace Go.Proofs.Ytaahbfcnccmcoaa
open Go.RowKit

theorem below_drewN {B : Nat} {a w : World} (h : Below B a w) (n : Nat) : Below B a (w.drewN n) := ⟨h.os, h.tape, h.output, h.size, h.block⟩
section
variable {F : Nat → Prop} {g : Nat} {r : Rp} {w : World}
set_option maxRecDepth 100000 in
set_option maxHeartbeats 800000 in
theorem rtake_no0 (h : RpIn F g r w) (n : Int) (v : Vot) (q0 : decide (n < 0) = true) : Calls Try.prog 34 #[ptrV g, .int .i64 n, msgV v] w fun e w' => e = .returned (.int .i64 0) ∧ Below w.heap.size w w' := by
  obtain ⟨bt, bw, bs, bh, h⟩ := h
  have h := h.head
  have hlt : g < w.heap.size := h.lt
  have c0 := h.cell (i := 0) (v := .int .i64 r.me) rfl
  have c1 := h.cell (i := 1) (v := .int .i64 r.nodes) rfl
  have HB : Hid (∀ o n, Below w.heap.size w ((w.alloc o).drewN n)) := Lib.hid (fun o n => below_drewN (alloc_below w o) n)
  clear h
  obtain ⟨⟨vl, ve, vc, vp⟩, vr, vs⟩ := v
  unfold ptrV msgV
  simp only
  go_enter Try.func34, Try.ntmps34
  go_wp2_with (fail)
  go_quiet (fail)
  go_wp2_with (fail)
  go_ret
  exact ⟨rfl, HB.out _ _⟩
set_option maxRecDepth 100000 in
set_option maxHeartbeats 800000 in
theorem rtake_no1 (h : RpIn F g r w) (n : Int) (v : Vot) (q0 : decide (n < 0) = false) (q1 : decide ((r.nodes : Int) ≤ n) = true) : Calls Try.prog 34 #[ptrV g, .int .i64 n, msgV v] w fun e w' => e = .returned (.int .i64 0) ∧ Below w.heap.size w w' := by
  obtain ⟨bt, bw, bs, bh, h⟩ := h
  have h := h.head
  have hlt : g < w.heap.size := h.lt
  have c0 := h.cell (i := 0) (v := .int .i64 r.me) rfl
  have c1 := h.cell (i := 1) (v := .int .i64 r.nodes) rfl
  have HB : Hid (∀ o n, Below w.heap.size w ((w.alloc o).drewN n)) := Lib.hid (fun o n => below_drewN (alloc_below w o) n)
  clear h
  obtain ⟨⟨vl, ve, vc, vp⟩, vr, vs⟩ := v
  unfold ptrV msgV
  simp only
  go_enter Try.func34, Try.ntmps34
  go_wp2_with (fail)
  go_quiet (fail)
  go_wp2_with (fail)
  go_ret
  exact ⟨rfl, HB.out _ _⟩
set_option maxRecDepth 100000 in
set_option maxHeartbeats 800000 in
theorem rtake_no2 (h : RpIn F g r w) (n : Int) (v : Vot) (q0 : decide (n < 0) = false) (q1 : decide ((r.nodes : Int) ≤ n) = false) (q2 : (n == (r.me : Int)) = true) : Calls Try.prog 34 #[ptrV g, .int .i64 n, msgV v] w fun e w' => e = .returned (.int .i64 0) ∧ Below w.heap.size w w' := by
  obtain ⟨bt, bw, bs, bh, h⟩ := h
  have h := h.head
  have hlt : g < w.heap.size := h.lt
  have c0 := h.cell (i := 0) (v := .int .i64 r.me) rfl
  have c1 := h.cell (i := 1) (v := .int .i64 r.nodes) rfl
  have HB : Hid (∀ o n, Below w.heap.size w ((w.alloc o).drewN n)) := Lib.hid (fun o n => below_drewN (alloc_below w o) n)
  clear h
  obtain ⟨⟨vl, ve, vc, vp⟩, vr, vs⟩ := v
  unfold ptrV msgV
  simp only
  go_enter Try.func34, Try.ntmps34
  go_wp2_with (fail)
  go_quiet (fail)
  go_wp2_with (fail)
  go_ret
  exact ⟨rfl, HB.out _ _⟩
set_option maxRecDepth 100000 in
set_option maxHeartbeats 800000 in
theorem rtake_no3 (h : RpIn F g r w) (n : Int) (v : Vot) (q0 : decide (n < 0) = false) (q1 : decide ((r.nodes : Int) ≤ n) = false) (q2 : (n == (r.me : Int)) = false) (q3 : decide (v.b.l < 0) = true) : Calls Try.prog 34 #[ptrV g, .int .i64 n, msgV v] w fun e w' => e = .returned (.int .i64 0) ∧ Below w.heap.size w w' := by
  obtain ⟨bt, bw, bs, bh, h⟩ := h
  have h := h.head
  have hlt : g < w.heap.size := h.lt
  have c0 := h.cell (i := 0) (v := .int .i64 r.me) rfl
  have c1 := h.cell (i := 1) (v := .int .i64 r.nodes) rfl
  have HB : Hid (∀ o n, Below w.heap.size w ((w.alloc o).drewN n)) := Lib.hid (fun o n => below_drewN (alloc_below w o) n)
  clear h
  obtain ⟨⟨vl, ve, vc, vp⟩, vr, vs⟩ := v
  unfold ptrV msgV
  simp only at q3 ⊢
  go_enter Try.func34, Try.ntmps34
  go_wp2_with (fail)
  go_quiet (fail)
  go_wp2_with (fail)
  go_ret
  exact ⟨rfl, HB.out _ _⟩
set_option maxRecDepth 100000 in
set_option maxHeartbeats 800000 in
theorem rtake_no4 (h : RpIn F g r w) (n : Int) (v : Vot) (q0 : decide (n < 0) = false) (q1 : decide ((r.nodes : Int) ≤ n) = false) (q2 : (n == (r.me : Int)) = false) (q3 : decide (v.b.l < 0) = false) (q4 : decide ((r.nodes : Int) ≤ v.b.l) = true) : Calls Try.prog 34 #[ptrV g, .int .i64 n, msgV v] w fun e w' => e = .returned (.int .i64 0) ∧ Below w.heap.size w w' := by
  obtain ⟨bt, bw, bs, bh, h⟩ := h
  have h := h.head
  have hlt : g < w.heap.size := h.lt
  have c0 := h.cell (i := 0) (v := .int .i64 r.me) rfl
  have c1 := h.cell (i := 1) (v := .int .i64 r.nodes) rfl
  have HB : Hid (∀ o n, Below w.heap.size w ((w.alloc o).drewN n)) := Lib.hid (fun o n => below_drewN (alloc_below w o) n)
  clear h
  obtain ⟨⟨vl, ve, vc, vp⟩, vr, vs⟩ := v
  unfold ptrV msgV
  simp only at q3 q4 ⊢
  go_enter Try.func34, Try.ntmps34
  go_wp2_with (fail)
  go_quiet (fail)
  go_wp2_with (fail)
  go_ret
  exact ⟨rfl, HB.out _ _⟩
set_option maxRecDepth 100000 in
set_option maxHeartbeats 800000 in
theorem rtake_no5 (h : RpIn F g r w) (n : Int) (v : Vot) (q0 : decide (n < 0) = false) (q1 : decide ((r.nodes : Int) ≤ n) = false) (q2 : (n == (r.me : Int)) = false) (q3 : decide (v.b.l < 0) = false) (q4 : decide ((r.nodes : Int) ≤ v.b.l) = false) (q5 : decide (v.state < 1) = true) : Calls Try.prog 34 #[ptrV g, .int .i64 n, msgV v] w fun e w' => e = .returned (.int .i64 0) ∧ Below w.heap.size w w' := by
  obtain ⟨bt, bw, bs, bh, h⟩ := h
  have h := h.head
  have hlt : g < w.heap.size := h.lt
  have c0 := h.cell (i := 0) (v := .int .i64 r.me) rfl
  have c1 := h.cell (i := 1) (v := .int .i64 r.nodes) rfl
  have HB : Hid (∀ o n, Below w.heap.size w ((w.alloc o).drewN n)) := Lib.hid (fun o n => below_drewN (alloc_below w o) n)
  clear h
  obtain ⟨⟨vl, ve, vc, vp⟩, vr, vs⟩ := v
  unfold ptrV msgV
  simp only at q3 q4 q5 ⊢
  go_enter Try.func34, Try.ntmps34
  go_wp2_with (fail)
  go_quiet (fail)
  go_wp2_with (fail)
  go_ret
  exact ⟨rfl, HB.out _ _⟩
set_option maxRecDepth 100000 in
set_option maxHeartbeats 800000 in
theorem rtake_no6 (h : RpIn F g r w) (n : Int) (v : Vot) (q0 : decide (n < 0) = false) (q1 : decide ((r.nodes : Int) ≤ n) = false) (q2 : (n == (r.me : Int)) = false) (q3 : decide (v.b.l < 0) = false) (q4 : decide ((r.nodes : Int) ≤ v.b.l) = false) (q5 : decide (v.state < 1) = false) (q6 : decide (3 < v.state) = true) : Calls Try.prog 34 #[ptrV g, .int .i64 n, msgV v] w fun e w' => e = .returned (.int .i64 0) ∧ Below w.heap.size w w' := by
  obtain ⟨bt, bw, bs, bh, h⟩ := h
  have h := h.head
  have hlt : g < w.heap.size := h.lt
  have c0 := h.cell (i := 0) (v := .int .i64 r.me) rfl
  have c1 := h.cell (i := 1) (v := .int .i64 r.nodes) rfl
  have HB : Hid (∀ o n, Below w.heap.size w ((w.alloc o).drewN n)) := Lib.hid (fun o n => below_drewN (alloc_below w o) n)
  clear h
  obtain ⟨⟨vl, ve, vc, vp⟩, vr, vs⟩ := v
  unfold ptrV msgV
  simp only at q3 q4 q5 q6 ⊢
  go_enter Try.func34, Try.ntmps34
  go_wp2_with (fail)
  go_quiet (fail)
  go_wp2_with (fail)
  go_ret
  exact ⟨rfl, HB.out _ _⟩
set_option maxRecDepth 100000 in
set_option maxHeartbeats 800000 in
theorem rtake_no7 (h : RpIn F g r w) (n : Int) (v : Vot) (q0 : decide (n < 0) = false) (q1 : decide ((r.nodes : Int) ≤ n) = false) (q2 : (n == (r.me : Int)) = false) (q3 : decide (v.b.l < 0) = false) (q4 : decide ((r.nodes : Int) ≤ v.b.l) = false) (q5 : decide (v.state < 1) = false) (q6 : decide (3 < v.state) = false) (q7 : decide (v.round < 0) = true) : Calls Try.prog 34 #[ptrV g, .int .i64 n, msgV v] w fun e w' => e = .returned (.int .i64 0) ∧ Below w.heap.size w w' := by
  obtain ⟨bt, bw, bs, bh, h⟩ := h
  have h := h.head
  have hlt : g < w.heap.size := h.lt
  have c0 := h.cell (i := 0) (v := .int .i64 r.me) rfl
  have c1 := h.cell (i := 1) (v := .int .i64 r.nodes) rfl
  have HB : Hid (∀ o n, Below w.heap.size w ((w.alloc o).drewN n)) := Lib.hid (fun o n => below_drewN (alloc_below w o) n)
  clear h
  obtain ⟨⟨vl, ve, vc, vp⟩, vr, vs⟩ := v
  unfold ptrV msgV
  simp only at q3 q4 q5 q6 q7 ⊢
  go_enter Try.func34, Try.ntmps34
  go_wp2_with (fail)
  go_quiet (fail)
  go_wp2_with (fail)
  go_ret
  exact ⟨rfl, HB.out _ _⟩
set_option maxRecDepth 100000 in
set_option maxHeartbeats 800000 in
theorem rtake_no8 (h : RpIn F g r w) (n : Int) (v : Vot) (q0 : decide (n < 0) = false) (q1 : decide ((r.nodes : Int) ≤ n) = false) (q2 : (n == (r.me : Int)) = false) (q3 : decide (v.b.l < 0) = false) (q4 : decide ((r.nodes : Int) ≤ v.b.l) = false) (q5 : decide (v.state < 1) = false) (q6 : decide (3 < v.state) = false) (q7 : decide (v.round < 0) = false) (q8 : decide (v.b.p < 0) = true) : Calls Try.prog 34 #[ptrV g, .int .i64 n, msgV v] w fun e w' => e = .returned (.int .i64 0) ∧ Below w.heap.size w w' := by
  obtain ⟨bt, bw, bs, bh, h⟩ := h
  have h := h.head
  have hlt : g < w.heap.size := h.lt
  have c0 := h.cell (i := 0) (v := .int .i64 r.me) rfl
  have c1 := h.cell (i := 1) (v := .int .i64 r.nodes) rfl
  have HB : Hid (∀ o n, Below w.heap.size w ((w.alloc o).drewN n)) := Lib.hid (fun o n => below_drewN (alloc_below w o) n)
  clear h
  obtain ⟨⟨vl, ve, vc, vp⟩, vr, vs⟩ := v
  unfold ptrV msgV
  simp only at q3 q4 q5 q6 q7 q8 ⊢
  go_enter Try.func34, Try.ntmps34
  go_wp2_with (fail)
  go_quiet (fail)
  go_wp2_with (fail)
  go_ret
  exact ⟨rfl, HB.out _ _⟩
set_option maxRecDepth 100000 in
set_option maxHeartbeats 800000 in
theorem rtake_no9 (h : RpIn F g r w) (n : Int) (v : Vot) (q0 : decide (n < 0) = false) (q1 : decide ((r.nodes : Int) ≤ n) = false) (q2 : (n == (r.me : Int)) = false) (q3 : decide (v.b.l < 0) = false) (q4 : decide ((r.nodes : Int) ≤ v.b.l) = false) (q5 : decide (v.state < 1) = false) (q6 : decide (3 < v.state) = false) (q7 : decide (v.round < 0) = false) (q8 : decide (v.b.p < 0) = false) (q9 : decide (v.b.e < 0) = true) : Calls Try.prog 34 #[ptrV g, .int .i64 n, msgV v] w fun e w' => e = .returned (.int .i64 0) ∧ Below w.heap.size w w' := by
  obtain ⟨bt, bw, bs, bh, h⟩ := h
  have h := h.head
  have hlt : g < w.heap.size := h.lt
  have c0 := h.cell (i := 0) (v := .int .i64 r.me) rfl
  have c1 := h.cell (i := 1) (v := .int .i64 r.nodes) rfl
  have HB : Hid (∀ o n, Below w.heap.size w ((w.alloc o).drewN n)) := Lib.hid (fun o n => below_drewN (alloc_below w o) n)
  clear h
  obtain ⟨⟨vl, ve, vc, vp⟩, vr, vs⟩ := v
  unfold ptrV msgV
  simp only at q3 q4 q5 q6 q7 q8 q9 ⊢
  go_enter Try.func34, Try.ntmps34
  go_wp2_with (fail)
  go_quiet (fail)
  go_wp2_with (fail)
  go_ret
  exact ⟨rfl, HB.out _ _⟩
set_option maxRecDepth 100000 in
set_option maxHeartbeats 800000 in
theorem rtake_no10 (h : RpIn F g r w) (n : Int) (v : Vot) (q0 : decide (n < 0) = false) (q1 : decide ((r.nodes : Int) ≤ n) = false) (q2 : (n == (r.me : Int)) = false) (q3 : decide (v.b.l < 0) = false) (q4 : decide ((r.nodes : Int) ≤ v.b.l) = false) (q5 : decide (v.state < 1) = false) (q6 : decide (3 < v.state) = false) (q7 : decide (v.round < 0) = false) (q8 : decide (v.b.p < 0) = false) (q9 : decide (v.b.e < 0) = false) (q10 : decide (v.b.c < 0) = true) : Calls Try.prog 34 #[ptrV g, .int .i64 n, msgV v] w fun e w' => e = .returned (.int .i64 0) ∧ Below w.heap.size w w' := by
  obtain ⟨bt, bw, bs, bh, h⟩ := h
  have h := h.head
  have hlt : g < w.heap.size := h.lt
  have c0 := h.cell (i := 0) (v := .int .i64 r.me) rfl
  have c1 := h.cell (i := 1) (v := .int .i64 r.nodes) rfl
  have HB : Hid (∀ o n, Below w.heap.size w ((w.alloc o).drewN n)) := Lib.hid (fun o n => below_drewN (alloc_below w o) n)
  clear h
  obtain ⟨⟨vl, ve, vc, vp⟩, vr, vs⟩ := v
  unfold ptrV msgV
  simp only at q3 q4 q5 q6 q7 q8 q9 q10 ⊢
  go_enter Try.func34, Try.ntmps34
  go_wp2_with (fail)
  go_quiet (fail)
  go_wp2_with (fail)
  go_ret
  exact ⟨rfl, HB.out _ _⟩
/-- What the reference's Take heeds. -/
def okR (r : Rp) (n : Int) (v : Vot) : Prop := ¬ n < 0 ∧ ¬ (r.nodes : Int) ≤ n ∧ n ≠ (r.me : Int) ∧ ¬ v.b.l < 0 ∧ ¬ (r.nodes : Int) ≤ v.b.l ∧ ¬ v.state < 1 ∧ ¬ 3 < v.state ∧ ¬ v.round < 0 ∧ ¬ v.b.p < 0 ∧ ¬ v.b.e < 0 ∧ ¬ v.b.c < 0
instance (r : Rp) (n : Int) (v : Vot) : Decidable (okR r n v) := by unfold okR; infer_instance
theorem rtake_bad (h : RpIn F g r w) (n : Int) (v : Vot) (q : ¬ okR r n v) : Calls Try.prog 34 #[ptrV g, .int .i64 n, msgV v] w fun e w' => e = .returned (.int .i64 0) ∧ Below w.heap.size w w' := by
  by_cases k0 : n < 0
  · exact rtake_no0 h n v  (decide_eq_true k0)
  by_cases k1 : (r.nodes : Int) ≤ n
  · exact rtake_no1 h n v (decide_eq_false k0) (decide_eq_true k1)
  by_cases k2 : n = (r.me : Int)
  · exact rtake_no2 h n v (decide_eq_false k0) (decide_eq_false k1) (by simpa using k2)
  by_cases k3 : v.b.l < 0
  · exact rtake_no3 h n v (decide_eq_false k0) (decide_eq_false k1) (by simpa using k2) (decide_eq_true k3)
  by_cases k4 : (r.nodes : Int) ≤ v.b.l
  · exact rtake_no4 h n v (decide_eq_false k0) (decide_eq_false k1) (by simpa using k2) (decide_eq_false k3) (decide_eq_true k4)
  by_cases k5 : v.state < 1
  · exact rtake_no5 h n v (decide_eq_false k0) (decide_eq_false k1) (by simpa using k2) (decide_eq_false k3) (decide_eq_false k4) (decide_eq_true k5)
  by_cases k6 : 3 < v.state
  · exact rtake_no6 h n v (decide_eq_false k0) (decide_eq_false k1) (by simpa using k2) (decide_eq_false k3) (decide_eq_false k4) (decide_eq_false k5) (decide_eq_true k6)
  by_cases k7 : v.round < 0
  · exact rtake_no7 h n v (decide_eq_false k0) (decide_eq_false k1) (by simpa using k2) (decide_eq_false k3) (decide_eq_false k4) (decide_eq_false k5) (decide_eq_false k6) (decide_eq_true k7)
  by_cases k8 : v.b.p < 0
  · exact rtake_no8 h n v (decide_eq_false k0) (decide_eq_false k1) (by simpa using k2) (decide_eq_false k3) (decide_eq_false k4) (decide_eq_false k5) (decide_eq_false k6) (decide_eq_false k7) (decide_eq_true k8)
  by_cases k9 : v.b.e < 0
  · exact rtake_no9 h n v (decide_eq_false k0) (decide_eq_false k1) (by simpa using k2) (decide_eq_false k3) (decide_eq_false k4) (decide_eq_false k5) (decide_eq_false k6) (decide_eq_false k7) (decide_eq_false k8) (decide_eq_true k9)
  by_cases k10 : v.b.c < 0
  · exact rtake_no10 h n v (decide_eq_false k0) (decide_eq_false k1) (by simpa using k2) (decide_eq_false k3) (decide_eq_false k4) (decide_eq_false k5) (decide_eq_false k6) (decide_eq_false k7) (decide_eq_false k8) (decide_eq_false k9) (decide_eq_true k10)
  exact absurd ⟨k0, k1, k2, k3, k4, k5, k6, k7, k8, k9, k10⟩ q
end
end Go.Proofs.Ytaahbfcnccmcoaa
