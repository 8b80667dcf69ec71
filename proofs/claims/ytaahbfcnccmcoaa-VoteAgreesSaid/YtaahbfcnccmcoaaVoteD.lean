/- The walk of Take. Conditions: as each theorem says. -/
import Derived.Test.YtaahbfcnccmcoaaVoteC
namespace Go.Proofs.Ytaahbfcnccmcoaa
open Go.RowKit

/-- What Take heeds. -/
def okV (p : Poll) (n : Int) (v : Vot) : Prop := nodeB p n = true ∧ n ≠ (p.me : Int) ∧ nodeB p v.b.l = true ∧ 1 ≤ v.state ∧ v.state ≤ 3 ∧ 0 ≤ v.round ∧ 0 ≤ v.b.p ∧ 0 ≤ v.b.e ∧ 0 ≤ v.b.c
def min4 (x y z u : Int) : Int := if u < (if z < (if y < x then y else x) then z else (if y < x then y else x)) then u else (if z < (if y < x then y else x) then z else (if y < x then y else x))
theorem min4_pos {x y z u : Int} (h1 : 0 ≤ x) (h2 : 0 ≤ y) (h3 : 0 ≤ z) (h4 : 0 ≤ u) : 0 ≤ min4 x y z u := by unfold min4; (repeat' split) <;> omega
theorem min4_neg {x y z u : Int} (h : x < 0 ∨ y < 0 ∨ z < 0 ∨ u < 0) : min4 x y z u < 0 := by unfold min4; (repeat' split) <;> omega
@[go_sem] theorem run_min_int4 {P : Program} (w : World) (ts : Array TypeId) (t : TypeId) (k k2 k3 k4 : IntKind) (x y z u : Int) :
    (Builtin.min_ ts t #[.int k x, .int k2 y, .int k3 z, .int k4 u]).run P w = .ok (.int k (min4 x y z u)) w := by
  simp [Builtin.min_, Builtin.min2, min4]
instance (p : Poll) (n : Int) (v : Vot) : Decidable (okV p n v) := by unfold okV; infer_instance
set_option maxRecDepth 100000 in
set_option maxHeartbeats 1600000 in
theorem take_no0 (g : Nat) (p : Poll) (n : Int) (v : Vot) (w : World) (h : PollAt g p w) (q : nodeB p n = false) :
    Calls Try.prog 28 #[ptrV g, .int .i64 n, votV v] w fun e w' => e = .returned (.int .i64 0) ∧ Below w.heap.size w w' := by
  have HPg : Hid (∀ o, PollAt g p (w.alloc o)) := fun o => BlkAt.grew h (alloc_below w o)
  have HN := Lib.hid (fun k W hW => node_any g p k W hW)
  have HB := Lib.hid (alloc_below w)
  have hlt : g < w.heap.size := BlkAt.lt h
  have c0 : w.cell? ⟨g, 0, none⟩ = some (.int .i64 (p.me : Int)) := h.cell (by rfl)
  have c6 : w.cell? ⟨g, 6, none⟩ = some (.int .i64 p.round) := h.cell (by rfl)
  have HP := Lib.hid h
  clear h
  obtain ⟨⟨vl, ve, vc, vp⟩, vr, vs⟩ := v
  unfold ptrV at HN
  have HN1 := Lib.hid (HN.out n)
  rw [q] at HN1
  clear q HN
  unfold ptrV votV
  simp only
  go_enter Try.func28, Try.ntmps28
  go_wp2_with (fail)
  refine (HN1.out _ (HPg.out _)).mono ?_
  rintro e w' ⟨rfl, rfl⟩
  go_wp2
  go_ret
  exact ⟨rfl, HB.out _⟩
set_option maxRecDepth 100000 in
set_option maxHeartbeats 1600000 in
theorem take_no1 (g : Nat) (p : Poll) (n : Int) (v : Vot) (w : World) (h : PollAt g p w) (q0 : nodeB p n = true) (q : n = (p.me : Int)) :
    Calls Try.prog 28 #[ptrV g, .int .i64 n, votV v] w fun e w' => e = .returned (.int .i64 0) ∧ Below w.heap.size w w' := by
  have HPg : Hid (∀ o, PollAt g p (w.alloc o)) := fun o => BlkAt.grew h (alloc_below w o)
  have HN := Lib.hid (fun k W hW => node_any g p k W hW)
  have HB := Lib.hid (alloc_below w)
  have hlt : g < w.heap.size := BlkAt.lt h
  have c0 : w.cell? ⟨g, 0, none⟩ = some (.int .i64 (p.me : Int)) := h.cell (by rfl)
  have c6 : w.cell? ⟨g, 6, none⟩ = some (.int .i64 p.round) := h.cell (by rfl)
  have HP := Lib.hid h
  clear h
  obtain ⟨⟨vl, ve, vc, vp⟩, vr, vs⟩ := v
  unfold ptrV at HN
  have HN1 := Lib.hid (HN.out n)
  rw [q0] at HN1
  clear q0
  have e0 : (n == (p.me : Int)) = true := by simpa using q
  clear q HN
  unfold ptrV votV
  simp only
  go_enter Try.func28, Try.ntmps28
  go_wp2_with (fail)
  refine (HN1.out _ (HPg.out _)).mono ?_
  rintro e w' ⟨rfl, rfl⟩
  go_wp2
  go_ret
  exact ⟨rfl, HB.out _⟩
set_option maxRecDepth 100000 in
set_option maxHeartbeats 1600000 in
theorem take_no2 (g : Nat) (p : Poll) (n : Int) (v : Vot) (w : World) (h : PollAt g p w) (q0 : nodeB p n = true) (q1 : n ≠ (p.me : Int)) (q : nodeB p v.b.l = false) :
    Calls Try.prog 28 #[ptrV g, .int .i64 n, votV v] w fun e w' => e = .returned (.int .i64 0) ∧ Below w.heap.size w w' := by
  have HPg : Hid (∀ o, PollAt g p (w.alloc o)) := fun o => BlkAt.grew h (alloc_below w o)
  have HN := Lib.hid (fun k W hW => node_any g p k W hW)
  have HB := Lib.hid (alloc_below w)
  have hlt : g < w.heap.size := BlkAt.lt h
  have c0 : w.cell? ⟨g, 0, none⟩ = some (.int .i64 (p.me : Int)) := h.cell (by rfl)
  have c6 : w.cell? ⟨g, 6, none⟩ = some (.int .i64 p.round) := h.cell (by rfl)
  have HP := Lib.hid h
  clear h
  obtain ⟨⟨vl, ve, vc, vp⟩, vr, vs⟩ := v
  unfold ptrV at HN
  have HN1 := Lib.hid (HN.out n)
  rw [q0] at HN1
  clear q0
  have e0 : (n == (p.me : Int)) = false := by simpa using q1
  clear q1
  have HN2 := Lib.hid (HN.out vl)
  clear HN
  simp only at q
  rw [q] at HN2
  clear q
  unfold ptrV votV
  simp only
  go_enter Try.func28, Try.ntmps28
  go_wp2_with (fail)
  refine (HN1.out _ (HPg.out _)).mono ?_
  rintro e w' ⟨rfl, rfl⟩
  go_wp2_with (fail)
  refine (HN2.out _ (HPg.out _)).mono ?_
  rintro e w' ⟨rfl, rfl⟩
  go_wp2
  go_ret
  exact ⟨rfl, HB.out _⟩
set_option maxRecDepth 100000 in
set_option maxHeartbeats 1600000 in
theorem take_no3 (g : Nat) (p : Poll) (n : Int) (v : Vot) (w : World) (h : PollAt g p w) (q0 : nodeB p n = true) (q1 : n ≠ (p.me : Int)) (q2 : nodeB p v.b.l = true) (q : v.state < 1) :
    Calls Try.prog 28 #[ptrV g, .int .i64 n, votV v] w fun e w' => e = .returned (.int .i64 0) ∧ Below w.heap.size w w' := by
  have HPg : Hid (∀ o, PollAt g p (w.alloc o)) := fun o => BlkAt.grew h (alloc_below w o)
  have HN := Lib.hid (fun k W hW => node_any g p k W hW)
  have HB := Lib.hid (alloc_below w)
  have hlt : g < w.heap.size := BlkAt.lt h
  have c0 : w.cell? ⟨g, 0, none⟩ = some (.int .i64 (p.me : Int)) := h.cell (by rfl)
  have c6 : w.cell? ⟨g, 6, none⟩ = some (.int .i64 p.round) := h.cell (by rfl)
  have HP := Lib.hid h
  clear h
  obtain ⟨⟨vl, ve, vc, vp⟩, vr, vs⟩ := v
  unfold ptrV at HN
  simp only at q
  have HN1 := Lib.hid (HN.out n)
  rw [q0] at HN1
  clear q0
  have e0 : (n == (p.me : Int)) = false := by simpa using q1
  clear q1
  have HN2 := Lib.hid (HN.out vl)
  clear HN
  simp only at q2
  rw [q2] at HN2
  clear q2
  unfold ptrV votV
  simp only
  go_enter Try.func28, Try.ntmps28
  go_wp2_with (fail)
  refine (HN1.out _ (HPg.out _)).mono ?_
  rintro e w' ⟨rfl, rfl⟩
  go_wp2_with (fail)
  refine (HN2.out _ (HPg.out _)).mono ?_
  rintro e w' ⟨rfl, rfl⟩
  go_wp2
  go_ret
  exact ⟨rfl, HB.out _⟩
set_option maxRecDepth 100000 in
set_option maxHeartbeats 1600000 in
theorem take_no4 (g : Nat) (p : Poll) (n : Int) (v : Vot) (w : World) (h : PollAt g p w) (q0 : nodeB p n = true) (q1 : n ≠ (p.me : Int)) (q2 : nodeB p v.b.l = true) (q : 3 < v.state) :
    Calls Try.prog 28 #[ptrV g, .int .i64 n, votV v] w fun e w' => e = .returned (.int .i64 0) ∧ Below w.heap.size w w' := by
  have HPg : Hid (∀ o, PollAt g p (w.alloc o)) := fun o => BlkAt.grew h (alloc_below w o)
  have HN := Lib.hid (fun k W hW => node_any g p k W hW)
  have HB := Lib.hid (alloc_below w)
  have hlt : g < w.heap.size := BlkAt.lt h
  have c0 : w.cell? ⟨g, 0, none⟩ = some (.int .i64 (p.me : Int)) := h.cell (by rfl)
  have c6 : w.cell? ⟨g, 6, none⟩ = some (.int .i64 p.round) := h.cell (by rfl)
  have HP := Lib.hid h
  clear h
  obtain ⟨⟨vl, ve, vc, vp⟩, vr, vs⟩ := v
  unfold ptrV at HN
  simp only at q
  have HN1 := Lib.hid (HN.out n)
  rw [q0] at HN1
  clear q0
  have e0 : (n == (p.me : Int)) = false := by simpa using q1
  clear q1
  have HN2 := Lib.hid (HN.out vl)
  clear HN
  simp only at q2
  rw [q2] at HN2
  clear q2
  unfold ptrV votV
  simp only
  go_enter Try.func28, Try.ntmps28
  go_wp2_with (fail)
  refine (HN1.out _ (HPg.out _)).mono ?_
  rintro e w' ⟨rfl, rfl⟩
  go_wp2_with (fail)
  refine (HN2.out _ (HPg.out _)).mono ?_
  rintro e w' ⟨rfl, rfl⟩
  go_wp2
  go_ret
  exact ⟨rfl, HB.out _⟩
set_option maxRecDepth 100000 in
set_option maxHeartbeats 1600000 in
theorem take_no5 (g : Nat) (p : Poll) (n : Int) (v : Vot) (w : World) (h : PollAt g p w) (q0 : nodeB p n = true) (q1 : n ≠ (p.me : Int)) (q2 : nodeB p v.b.l = true) (q3 : 1 ≤ v.state) (q4 : v.state ≤ 3) (q : v.round < 0 ∨ v.b.p < 0 ∨ v.b.e < 0 ∨ v.b.c < 0) :
    Calls Try.prog 28 #[ptrV g, .int .i64 n, votV v] w fun e w' => e = .returned (.int .i64 0) ∧ Below w.heap.size w w' := by
  have HPg : Hid (∀ o, PollAt g p (w.alloc o)) := fun o => BlkAt.grew h (alloc_below w o)
  have HN := Lib.hid (fun k W hW => node_any g p k W hW)
  have HB := Lib.hid (alloc_below w)
  have hlt : g < w.heap.size := BlkAt.lt h
  have c0 : w.cell? ⟨g, 0, none⟩ = some (.int .i64 (p.me : Int)) := h.cell (by rfl)
  have c6 : w.cell? ⟨g, 6, none⟩ = some (.int .i64 p.round) := h.cell (by rfl)
  have HP := Lib.hid h
  clear h
  obtain ⟨⟨vl, ve, vc, vp⟩, vr, vs⟩ := v
  unfold ptrV at HN
  simp only at q
  have HN1 := Lib.hid (HN.out n)
  rw [q0] at HN1
  clear q0
  have e0 : (n == (p.me : Int)) = false := by simpa using q1
  clear q1
  have HN2 := Lib.hid (HN.out vl)
  clear HN
  simp only at q2
  rw [q2] at HN2
  clear q2
  simp only at q3 q4
  unfold ptrV votV
  simp only
  have hm := min4_neg q
  clear q
  go_enter Try.func28, Try.ntmps28
  go_wp2_with (fail)
  refine (HN1.out _ (HPg.out _)).mono ?_
  rintro e w' ⟨rfl, rfl⟩
  go_wp2_with (fail)
  refine (HN2.out _ (HPg.out _)).mono ?_
  rintro e w' ⟨rfl, rfl⟩
  go_wp2
  go_ret
  exact ⟨rfl, HB.out _⟩
set_option maxRecDepth 100000 in
theorem take_nil (n : Int) (v : Vot) (w : World) : Calls Try.prog 28 #[.pointer none, .int .i64 n, votV v] w fun e w' => e = .returned (.int .i64 0) ∧ Below w.heap.size w w' := by
  have HB := Lib.hid (alloc_below w)
  unfold votV
  go_enter Try.func28, Try.ntmps28
  go_wp2
  go_ret
  exact ⟨rfl, HB.out _⟩
/-- A vote that is not heeded changes nothing. -/
theorem take_no (g : Nat) (p : Poll) (n : Int) (v : Vot) (w : World) (h : PollAt g p w) (hn : ¬ okV p n v) :
    Calls Try.prog 28 #[ptrV g, .int .i64 n, votV v] w fun e w' => e = .returned (.int .i64 0) ∧ Below w.heap.size w w' := by
  unfold okV at hn
  by_cases q0 : nodeB p n = true
  · by_cases q1 : n = (p.me : Int)
    · exact take_no1 g p n v w h q0 q1
    · by_cases q2 : nodeB p v.b.l = true
      · by_cases q3 : v.state < 1
        · exact take_no3 g p n v w h q0 q1 q2 q3
        · by_cases q4 : 3 < v.state
          · exact take_no4 g p n v w h q0 q1 q2 q4
          · refine take_no5 g p n v w h q0 q1 q2 (by omega) (by omega) ?_
            simp only [q0, q1, q2, ne_eq, not_false_eq_true, true_and] at hn
            omega
      · exact take_no2 g p n v w h q0 q1 (by simpa using q2)
  · exact take_no0 g p n v w h (by simpa using q0)
end Go.Proofs.Ytaahbfcnccmcoaa
