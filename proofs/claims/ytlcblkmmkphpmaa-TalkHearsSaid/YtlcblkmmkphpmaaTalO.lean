/- How the talk laws' arguments are opened: requests, responses, ranges, who one is. Printed by gen/genTalO.py. Conditions: as each theorem says. -/
import Derived.Test.YtlcblkmmkphpmaaTalG
import Derived.OpenShut
namespace Go.Proofs.Ytlcblkmmkphpmaa
open Go.RowKit

theorem i64_wf {n : Int} (h : (Lit.int .i64 n).wf = true) : i64 n := by
  simp [Lit.wf, IntKind.max, IntKind.min] at h
  unfold i64
  have h1 := h.1
  have h2 := h.2
  simp [IntKind.max, IntKind.min, IntKind.signed, IntKind.bits] at h1 h2
  omega
section
open Go.WideShapes Go.ChangeShapes
variable {H : Type} {enc : TypeId × Value → H} {w : World}
theorem ci : Try.prog.cellsOf 3 = 1 := by kernel_rfl
theorem cb : Try.prog.cellsOf 4 = 1 := by kernel_rfl
theorem cs_ : Try.prog.cellsOf 9 = 1 := by kernel_rfl
theorem ce : Try.prog.cellsOf 31 = 1 := by kernel_rfl
theorem crg : Try.prog.cellsOf 28 = 7 := by kernel_rfl
theorem ccp : Try.prog.cellsOf 75 = 5 := by kernel_rfl
theorem cop : Try.prog.cellsOf 89 = 10 := by kernel_rfl
theorem ckv : Try.prog.cellsOf 101 = 6 := by kernel_rfl
theorem can : Try.prog.cellsOf 99 = 4 := by kernel_rfl
theorem crq : Try.prog.cellsOf 26 = 7 := by kernel_rfl
theorem crs : Try.prog.cellsOf 48 = 5 := by kernel_rfl
theorem cwh : Try.prog.cellsOf 40 = 2 := by kernel_rfl
theorem sz_of {s : ByteArray} (h : s.size ≤ maxLen) : s.data.toList.length ≤ M63 := by
  have : s.data.toList.length = s.size := by rw [Array.length_toList]; rfl
  rw [this]; exact h
set_option maxRecDepth 100000 in
set_option maxHeartbeats 1000000 in
theorem rg_cells {fuel : Nat} {cs : List Value} {x : DataW H × List MemPlace} (h : DataW.trod enc Try.prog w 0 (fun _ => true) true fuel 28 cs = some x) : ∃ y : Rg, cs = rgV y ∧ y.int ∧ y.sz := by
  obtain ⟨xs, n, _, _, hl, hlen, hg⟩ := DataW.trod_struct Try.underlying28 h
  rw [crg] at hl
  match cs, hl, xs, hlen with
  | [c0, c1, c2, c3, c4, c5, c6], _, [y0, y1, y2, y3, y4, y5, y6], _ =>
    obtain ⟨a0, e0, _, z0⟩ := DataW.trod_string Try.underlying9 (by simpa using hg 0 _ rfl)
    rw [cs_] at e0
    simp at e0
    obtain ⟨a1, e1, _, z1⟩ := DataW.trod_string Try.underlying9 (by simpa using hg 1 _ rfl)
    rw [cs_] at e1
    simp at e1
    obtain ⟨a2, e2, _, z2⟩ := DataW.trod_int Try.underlying3 (by simpa using hg 2 _ rfl)
    rw [ci] at e2
    simp at e2
    have z2 := i64_wf z2
    obtain ⟨a3, e3, _, z3⟩ := DataW.trod_int Try.underlying3 (by simpa using hg 3 _ rfl)
    rw [ci] at e3
    simp at e3
    have z3 := i64_wf z3
    obtain ⟨a4, e4, _⟩ := DataW.trod_bool Try.underlying4 (by simpa using hg 4 _ rfl)
    rw [cb] at e4
    simp at e4
    obtain ⟨a5, e5, _⟩ := DataW.trod_bool Try.underlying4 (by simpa using hg 5 _ rfl)
    rw [cb] at e5
    simp at e5
    obtain ⟨a6, e6, _⟩ := DataW.trod_bool Try.underlying4 (by simpa using hg 6 _ rfl)
    rw [cb] at e6
    simp at e6
    subst e0 e1 e2 e3 e4 e5 e6
    exact ⟨⟨a0.data.toList, a1.data.toList, a2, a3, a4, a5, a6⟩, by simp [rgV, bs_of], ⟨z2, z3⟩, ⟨sz_of z0, sz_of z1⟩⟩
set_option maxRecDepth 100000 in
set_option maxHeartbeats 1000000 in
theorem cp_cells {fuel : Nat} {cs : List Value} {x : DataW H × List MemPlace} (h : DataW.trod enc Try.prog w 0 (fun _ => true) true fuel 75 cs = some x) : ∃ y : Cp, cs = cpV y ∧ y.int ∧ y.sz := by
  obtain ⟨xs, n, _, _, hl, hlen, hg⟩ := DataW.trod_struct Try.underlying75 h
  rw [ccp] at hl
  match cs, hl, xs, hlen with
  | [c0, c1, c2, c3, c4], _, [y0, y1, y2, y3, y4], _ =>
    obtain ⟨a0, e0, _, z0⟩ := DataW.trod_string Try.underlying9 (by simpa using hg 0 _ rfl)
    rw [cs_] at e0
    simp at e0
    obtain ⟨a1, e1, _, z1⟩ := DataW.trod_int Try.underlying3 (by simpa using hg 1 _ rfl)
    rw [ci] at e1
    simp at e1
    have z1 := i64_wf z1
    obtain ⟨a2, e2, _, z2⟩ := DataW.trod_int Try.underlying3 (by simpa using hg 2 _ rfl)
    rw [ci] at e2
    simp at e2
    have z2 := i64_wf z2
    obtain ⟨a3, e3, _, z3⟩ := DataW.trod_int Try.underlying3 (by simpa using hg 3 _ rfl)
    rw [ci] at e3
    simp at e3
    have z3 := i64_wf z3
    obtain ⟨a4, e4, _, z4⟩ := DataW.trod_string Try.underlying9 (by simpa using hg 4 _ rfl)
    rw [cs_] at e4
    simp at e4
    subst e0 e1 e2 e3 e4
    exact ⟨⟨a0.data.toList, a1, a2, a3, a4.data.toList⟩, by simp [cpV, bs_of], ⟨z1, z2, z3⟩, ⟨sz_of z0, sz_of z4⟩⟩
set_option maxRecDepth 100000 in
set_option maxHeartbeats 1000000 in
theorem op_cells {fuel : Nat} {cs : List Value} {x : DataW H × List MemPlace} (h : DataW.trod enc Try.prog w 0 (fun _ => true) true fuel 89 cs = some x) : ∃ y : Opr, cs = opV y ∧ y.int ∧ y.sz := by
  obtain ⟨xs, n, _, _, hl, hlen, hg⟩ := DataW.trod_struct Try.underlying89 h
  rw [cop] at hl
  match cs, hl, xs, hlen with
  | [c0, c1, c2, c3, c4, c5, c6, c7, c8, c9], _, [y0, y1, y2, y3], _ =>
    obtain ⟨a0, e0, _, z0⟩ := DataW.trod_int Try.underlying3 (by simpa using hg 0 _ rfl)
    rw [ci] at e0
    simp at e0
    have z0 := i64_wf z0
    obtain ⟨a1, e1, z1, s1⟩ := rg_cells (x := y1) (by simpa using hg 1 _ rfl)
    rw [crg] at e1
    simp [rgV] at e1
    obtain ⟨a2, e2, _, z2⟩ := DataW.trod_string Try.underlying9 (by simpa using hg 2 _ rfl)
    rw [cs_] at e2
    simp at e2
    obtain ⟨a3, e3, _, z3⟩ := DataW.trod_int Try.underlying3 (by simpa using hg 3 _ rfl)
    rw [ci] at e3
    simp at e3
    have z3 := i64_wf z3
    obtain ⟨rfl, rfl, rfl, rfl, rfl, rfl, rfl⟩ := e1
    subst e0 e2 e3
    exact ⟨⟨a0, a1, a2.data.toList, a3⟩, by simp [opV, bs_of], ⟨z0, z1, z3⟩, ⟨s1, sz_of z2⟩⟩
set_option maxRecDepth 100000 in
set_option maxHeartbeats 1000000 in
theorem kv_cells {fuel : Nat} {cs : List Value} {x : DataW H × List MemPlace} (h : DataW.trod enc Try.prog w 0 (fun _ => true) true fuel 101 cs = some x) : ∃ y : Kvr, cs = kvV y ∧ y.int ∧ y.sz := by
  obtain ⟨xs, n, _, _, hl, hlen, hg⟩ := DataW.trod_struct Try.underlying101 h
  rw [ckv] at hl
  match cs, hl, xs, hlen with
  | [c0, c1, c2, c3, c4, c5], _, [y0, y1, y2, y3, y4, y5], _ =>
    obtain ⟨a0, e0, _, z0⟩ := DataW.trod_string Try.underlying9 (by simpa using hg 0 _ rfl)
    rw [cs_] at e0
    simp at e0
    obtain ⟨a1, e1, _, z1⟩ := DataW.trod_string Try.underlying9 (by simpa using hg 1 _ rfl)
    rw [cs_] at e1
    simp at e1
    obtain ⟨a2, e2, _, z2⟩ := DataW.trod_int Try.underlying3 (by simpa using hg 2 _ rfl)
    rw [ci] at e2
    simp at e2
    have z2 := i64_wf z2
    obtain ⟨a3, e3, _, z3⟩ := DataW.trod_int Try.underlying3 (by simpa using hg 3 _ rfl)
    rw [ci] at e3
    simp at e3
    have z3 := i64_wf z3
    obtain ⟨a4, e4, _, z4⟩ := DataW.trod_int Try.underlying3 (by simpa using hg 4 _ rfl)
    rw [ci] at e4
    simp at e4
    have z4 := i64_wf z4
    obtain ⟨a5, e5, _, z5⟩ := DataW.trod_int Try.underlying3 (by simpa using hg 5 _ rfl)
    rw [ci] at e5
    simp at e5
    have z5 := i64_wf z5
    subst e0 e1 e2 e3 e4 e5
    exact ⟨⟨a0.data.toList, a1.data.toList, a2, a3, a4, a5⟩, by simp [kvV, bs_of], ⟨z2, z3, z4, z5⟩, ⟨sz_of z0, sz_of z1⟩⟩
theorem slice_cells {fuel : Nat} {t e : TypeId} {v : Value} {x : DataW H × List MemPlace} (ht : Try.prog.underlying t = some (.slice e)) (h : DataW.trod enc Try.prog w 0 (fun _ => true) true fuel t [v] = some x) : ∃ a n c, v = .slice a n c := by
  obtain ⟨D, p⟩ := x
  rcases Go.Deep.open_slice ht h with ⟨hcs, _⟩ | ⟨a, len', cap', m, n, D, Pl, hcs, _⟩
  · simp only [List.cons.injEq, and_true] at hcs
    exact ⟨_, _, _, hcs⟩
  · simp only [List.cons.injEq, and_true] at hcs
    exact ⟨_, _, _, hcs⟩
set_option maxRecDepth 100000 in
set_option maxHeartbeats 1000000 in
theorem an_cells {fuel : Nat} {cs : List Value} {x : DataW H × List MemPlace} (h : DataW.trod enc Try.prog w 0 (fun _ => true) true fuel 99 cs = some x) : ∃ p : Ans × Value, cs = anV p ∧ (RowsAt 6 kvV w p.2 p.1.kvs ∧ p.1.int ∧ p.1.sz) := by
  obtain ⟨xs, n, _, _, hl, hlen, hg⟩ := DataW.trod_struct Try.underlying99 h
  rw [can] at hl
  match cs, hl, xs, hlen with
  | [c0, c1, c2, c3], _, [y0, y1, y2, y3], _ =>
    obtain ⟨a0, e0, _, z0⟩ := DataW.trod_int Try.underlying3 (by simpa using hg 0 _ rfl)
    rw [ci] at e0
    simp at e0
    have z0 := i64_wf z0
    have h1 := hg 1 _ rfl
    have cc1 : Try.prog.cellsOf 97 = 1 := by kernel_rfl
    simp [cc1] at h1
    obtain ⟨b1, n1, p1, rfl⟩ := slice_cells Try.underlying97 h1
    obtain ⟨L1, l1, lc1, lm1, R1, K1⟩ := rows_of_trod (k := 6) (en := kvV) (ok := fun _ y => y.int ∧ y.sz) Try.underlying97 ckv (by decide) (fun fuel cs x hx => kv_cells hx) kvV_len h1
    subst l1
    obtain ⟨a2, e2, _, z2⟩ := DataW.trod_int Try.underlying3 (by simpa using hg 2 _ rfl)
    rw [ci] at e2
    simp at e2
    have z2 := i64_wf z2
    obtain ⟨a3, e3, _⟩ := DataW.trod_bool Try.underlying4 (by simpa using hg 3 _ rfl)
    rw [cb] at e3
    simp at e3
    subst e0 e2 e3
    exact ⟨(⟨a0, L1, a2, a3⟩, .slice b1 L1.length p1), rfl, R1, ⟨z0, fun y hy => (K1 y hy).1, z2⟩, ⟨Nat.le_trans lc1 lm1, fun y hy => (K1 y hy).2⟩⟩
set_option maxRecDepth 100000 in
set_option maxHeartbeats 1000000 in
theorem rq_cells {fuel : Nat} {cs : List Value} {x : DataW H × List MemPlace} (h : DataW.trod enc Try.prog w 0 (fun _ => true) true fuel 26 cs = some x) : ∃ (y : Req) (s1 s2 s3 : Value), cs = rqV y s1 s2 s3 ∧ RqAt w y s1 s2 s3 ∧ y.int ∧ y.sz := by
  obtain ⟨xs, n, _, _, hl, hlen, hg⟩ := DataW.trod_struct Try.underlying26 h
  rw [crq] at hl
  match cs, hl, xs, hlen with
  | [c0, c1, c2, c3, c4, c5, c6], _, [y0, y1, y2, y3, y4, y5, y6], _ =>
    obtain ⟨a0, e0, _, z0⟩ := DataW.trod_int Try.underlying3 (by simpa using hg 0 _ rfl)
    rw [ci] at e0
    simp at e0
    have z0 := i64_wf z0
    have h1 := hg 1 _ rfl
    have cc1 : Try.prog.cellsOf 23 = 1 := by kernel_rfl
    simp [cc1] at h1
    obtain ⟨b1, n1, p1, rfl⟩ := slice_cells Try.underlying23 h1
    obtain ⟨L1, l1, lc1, lm1, R1, K1⟩ := rows_of_trod (k := 5) (en := cpV) (ok := fun _ y => y.int ∧ y.sz) Try.underlying23 ccp (by decide) (fun fuel cs x hx => cp_cells hx) cpV_len h1
    subst l1
    have h2 := hg 2 _ rfl
    have cc2 : Try.prog.cellsOf 24 = 1 := by kernel_rfl
    simp [cc2] at h2
    obtain ⟨b2, n2, p2, rfl⟩ := slice_cells Try.underlying24 h2
    obtain ⟨L2, l2, lc2, lm2, R2, K2⟩ := rows_of_trod (k := 10) (en := opV) (ok := fun _ y => y.int ∧ y.sz) Try.underlying24 cop (by decide) (fun fuel cs x hx => op_cells hx) opV_len h2
    subst l2
    have h3 := hg 3 _ rfl
    have cc3 : Try.prog.cellsOf 24 = 1 := by kernel_rfl
    simp [cc3] at h3
    obtain ⟨b3, n3, p3, rfl⟩ := slice_cells Try.underlying24 h3
    obtain ⟨L3, l3, lc3, lm3, R3, K3⟩ := rows_of_trod (k := 10) (en := opV) (ok := fun _ y => y.int ∧ y.sz) Try.underlying24 cop (by decide) (fun fuel cs x hx => op_cells hx) opV_len h3
    subst l3
    obtain ⟨a4, e4, _, z4⟩ := DataW.trod_int Try.underlying3 (by simpa using hg 4 _ rfl)
    rw [ci] at e4
    simp at e4
    have z4 := i64_wf z4
    obtain ⟨a5, e5, _, z5⟩ := DataW.trod_int Try.underlying3 (by simpa using hg 5 _ rfl)
    rw [ci] at e5
    simp at e5
    have z5 := i64_wf z5
    obtain ⟨a6, e6, _, z6⟩ := DataW.trod_int Try.underlying3 (by simpa using hg 6 _ rfl)
    rw [ci] at e6
    simp at e6
    have z6 := i64_wf z6
    subst e0 e4 e5 e6
    exact ⟨⟨a0, L1, L2, L3, a4, a5, a6⟩, .slice b1 L1.length p1, .slice b2 L2.length p2, .slice b3 L3.length p3, rfl, ⟨R1, R2, R3⟩, ⟨z0, fun y hy => (K1 y hy).1, fun y hy => (K2 y hy).1, fun y hy => (K3 y hy).1, z4, z5, z6⟩, ⟨⟨Nat.le_trans lc1 lm1, Nat.le_trans lc2 lm2, Nat.le_trans lc3 lm3⟩, fun y hy => (K1 y hy).2, fun y hy => (K2 y hy).2, fun y hy => (K3 y hy).2⟩⟩
set_option maxRecDepth 100000 in
set_option maxHeartbeats 1000000 in
theorem rs_cells {fuel : Nat} {cs : List Value} {x : DataW H × List MemPlace} (h : DataW.trod enc Try.prog w 0 (fun _ => true) true fuel 48 cs = some x) : ∃ (y : Res) (s : Value) (L : List (Ans × Value)), cs = rsV y s ∧ RsAt w y s L ∧ y.int ∧ y.sz := by
  obtain ⟨xs, n, _, _, hl, hlen, hg⟩ := DataW.trod_struct Try.underlying48 h
  rw [crs] at hl
  match cs, hl, xs, hlen with
  | [c0, c1, c2, c3, c4], _, [y0, y1, y2, y3, y4], _ =>
    obtain ⟨a0, e0, _, z0⟩ := DataW.trod_int Try.underlying31 (by simpa using hg 0 _ rfl)
    rw [ce] at e0
    simp at e0
    have z0 := i64_wf z0
    obtain ⟨a1, e1, _, z1⟩ := DataW.trod_int Try.underlying3 (by simpa using hg 1 _ rfl)
    rw [ci] at e1
    simp at e1
    have z1 := i64_wf z1
    obtain ⟨a2, e2, _⟩ := DataW.trod_bool Try.underlying4 (by simpa using hg 2 _ rfl)
    rw [cb] at e2
    simp at e2
    have h3 := hg 3 _ rfl
    have cc3 : Try.prog.cellsOf 46 = 1 := by kernel_rfl
    simp [cc3] at h3
    obtain ⟨b3, n3, p3, rfl⟩ := slice_cells Try.underlying46 h3
    obtain ⟨L3, l3, lc3, lm3, R3, K3⟩ := rows_of_trod (k := 4) (en := anV) (ok := fun w p => RowsAt 6 kvV w p.2 p.1.kvs ∧ p.1.int ∧ p.1.sz) Try.underlying46 can (by decide) (fun fuel cs x hx => an_cells hx) anV_len h3
    subst l3
    obtain ⟨a4, e4, _, z4⟩ := DataW.trod_int Try.underlying3 (by simpa using hg 4 _ rfl)
    rw [ci] at e4
    simp at e4
    have z4 := i64_wf z4
    subst e0 e1 e2 e4
    exact ⟨⟨a0, a1, a2, L3.map (·.1), a4⟩, .slice b3 L3.length p3, L3, rfl, ⟨rfl, R3, fun p hp => (K3 p hp).1⟩, ⟨z0, z1, fun y hy => by obtain ⟨p, hp, rfl⟩ := List.mem_map.1 hy; exact (K3 p hp).2.1, z4⟩, ⟨by rw [List.length_map]; exact Nat.le_trans lc3 lm3, fun y hy => by obtain ⟨p, hp, rfl⟩ := List.mem_map.1 hy; exact (K3 p hp).2.2⟩⟩
set_option maxRecDepth 100000 in
set_option maxHeartbeats 1000000 in
theorem wh_cells {fuel : Nat} {cs : List Value} {x : DataW H × List MemPlace} (h : DataW.trod enc Try.prog w 0 (fun _ => true) true fuel 40 cs = some x) : ∃ a b : Int, cs = [.int .i64 a, .int .i64 b] ∧ i64 a ∧ i64 b := by
  obtain ⟨xs, n, _, _, hl, hlen, hg⟩ := DataW.trod_struct Try.underlying40 h
  rw [cwh] at hl
  match cs, hl, xs, hlen with
  | [c0, c1], _, [y0, y1], _ =>
    obtain ⟨a0, e0, _, z0⟩ := DataW.trod_int Try.underlying3 (by simpa using hg 0 _ rfl)
    rw [ci] at e0
    simp at e0
    have z0 := i64_wf z0
    obtain ⟨a1, e1, _, z1⟩ := DataW.trod_int Try.underlying3 (by simpa using hg 1 _ rfl)
    rw [ci] at e1
    simp at e1
    have z1 := i64_wf z1
    subst e0 e1
    exact ⟨a0, a1, rfl, z0, z1⟩
def IsReq (w : World) (v : Value) : Prop := ∃ (y : Req) (s1 s2 s3 : Value), v = .agg (rqV y s1 s2 s3).toArray ∧ RqAt w y s1 s2 s3 ∧ y.int ∧ y.sz
def IsRes (w : World) (v : Value) : Prop := ∃ (y : Res) (s : Value) (L : List (Ans × Value)), v = .agg (rsV y s).toArray ∧ RsAt w y s L ∧ y.int ∧ y.sz
def IsRg (v : Value) : Prop := ∃ y : Rg, v = .agg (rgV y).toArray ∧ y.int ∧ y.sz
def IsWho (v : Value) : Prop := ∃ a b : Int, v = .agg #[.int .i64 a, .int .i64 b] ∧ i64 a ∧ i64 b
set_option maxRecDepth 100000 in
theorem open_req {r : Reach} {base : Nat} {v : Value} {d : DataW H} {p : List MemPlace}
    (hv : Value.okWide Try.prog w r base 26 v) (h : DataW.Trod enc Try.prog w 0 (fun _ => true) true 26 v d p) : IsReq w v := by
  obtain ⟨cs, rfl, hsz⟩ := okWide_struct Try.underlying26 hv
  obtain ⟨fuel, hf⟩ := h
  have hf2 : DataW.trod enc Try.prog w 0 (fun _ => true) true fuel 26 cs.toList = some (d, p) := by simpa [Value.cells] using hf
  obtain ⟨cl⟩ := cs
  obtain ⟨y, s1, s2, s3, hc, hr⟩ := rq_cells hf2
  simp only at hc
  subst hc
  exact ⟨y, s1, s2, s3, rfl, hr⟩
set_option maxRecDepth 100000 in
theorem open_res {r : Reach} {base : Nat} {v : Value} {d : DataW H} {p : List MemPlace}
    (hv : Value.okWide Try.prog w r base 48 v) (h : DataW.Trod enc Try.prog w 0 (fun _ => true) true 48 v d p) : IsRes w v := by
  obtain ⟨cs, rfl, hsz⟩ := okWide_struct Try.underlying48 hv
  obtain ⟨fuel, hf⟩ := h
  have hf2 : DataW.trod enc Try.prog w 0 (fun _ => true) true fuel 48 cs.toList = some (d, p) := by simpa [Value.cells] using hf
  obtain ⟨cl⟩ := cs
  obtain ⟨y, s, L, hc, hr⟩ := rs_cells hf2
  simp only at hc
  subst hc
  exact ⟨y, s, L, rfl, hr⟩
set_option maxRecDepth 100000 in
theorem open_rg {r : Reach} {base : Nat} {v : Value} {d : DataW H} {p : List MemPlace}
    (hv : Value.okWide Try.prog w r base 28 v) (h : DataW.Trod enc Try.prog w 0 (fun _ => true) true 28 v d p) : IsRg v := by
  obtain ⟨cs, rfl, hsz⟩ := okWide_struct Try.underlying28 hv
  obtain ⟨fuel, hf⟩ := h
  have hf2 : DataW.trod enc Try.prog w 0 (fun _ => true) true fuel 28 cs.toList = some (d, p) := by simpa [Value.cells] using hf
  obtain ⟨cl⟩ := cs
  obtain ⟨y, hc, hr⟩ := rg_cells hf2
  simp only at hc
  subst hc
  exact ⟨y, rfl, hr⟩
set_option maxRecDepth 100000 in
theorem open_who {r : Reach} {base : Nat} {v : Value} {d : DataW H} {p : List MemPlace}
    (hv : Value.okWide Try.prog w r base 40 v) (h : DataW.Trod enc Try.prog w 0 (fun _ => true) true 40 v d p) : IsWho v := by
  obtain ⟨cs, rfl, hsz⟩ := okWide_struct Try.underlying40 hv
  obtain ⟨fuel, hf⟩ := h
  have hf2 : DataW.trod enc Try.prog w 0 (fun _ => true) true fuel 40 cs.toList = some (d, p) := by simpa [Value.cells] using hf
  obtain ⟨cl⟩ := cs
  obtain ⟨a, b, hc, hr⟩ := wh_cells hf2
  simp only at hc
  subst hc
  exact ⟨a, b, rfl, hr⟩
set_option maxRecDepth 100000 in
theorem open_req2 {r : Reach} {base : Nat} {v : Value} {d : DataW H} {p : List MemPlace}
    (hv : Value.okWide Try.prog w r base 51 v) (h : DataW.Trod enc Try.prog w 0 (fun _ => true) true 51 v d p) : ∃ (y1 : Req) (s1 s2 s3 : Value) (y2 : Req) (t1 t2 t3 : Value), v = .agg (rqV y1 s1 s2 s3 ++ rqV y2 t1 t2 t3).toArray ∧ (RqAt w y1 s1 s2 s3 ∧ y1.int ∧ y1.sz) ∧ (RqAt w y2 t1 t2 t3 ∧ y2.int ∧ y2.sz) := by
  have hv2 : ∃ cs, v = .agg cs ∧ cs.size = Try.prog.cellsOf 51 := by
    simp only [Value.okWide, Try.underlying51] at hv
    obtain ⟨cs, h1, h2, _⟩ := hv
    exact ⟨cs, h1, h2⟩
  obtain ⟨cs, rfl, hsz⟩ := hv2
  obtain ⟨fuel, hf⟩ := h
  have hf2 : DataW.trod enc Try.prog w 0 (fun _ => true) true fuel 51 cs.toList = some (d, p) := by simpa [Value.cells] using hf
  obtain ⟨xs, m, _, _, hl, hlen, hg⟩ := DataW.trod_array Try.underlying51 hf2
  rw [show Try.prog.cellsOf 51 = 14 by kernel_rfl] at hl
  obtain ⟨cl⟩ := cs
  match cl, hl, xs, hlen with
  | [c0, c1, c2, c3, c4, c5, c6, c7, c8, c9, c10, c11, c12, c13], _, [y0, y1], _ =>
    have h0 := hg 0 (by omega)
    have h1 := hg 1 (by omega)
    rw [crq] at h0 h1
    obtain ⟨g1, u11, u12, u13, e1, r1⟩ := rq_cells (x := y0) (cs := [c0, c1, c2, c3, c4, c5, c6]) (by simpa using h0)
    obtain ⟨g2, u21, u22, u23, e2, r2⟩ := rq_cells (x := y1) (cs := [c7, c8, c9, c10, c11, c12, c13]) (by simpa using h1)
    refine ⟨g1, u11, u12, u13, g2, u21, u22, u23, ?_, r1, r2⟩
    rw [← e1, ← e2]
    rfl
set_option maxRecDepth 100000 in
theorem open_res2 {r : Reach} {base : Nat} {v : Value} {d : DataW H} {p : List MemPlace}
    (hv : Value.okWide Try.prog w r base 52 v) (h : DataW.Trod enc Try.prog w 0 (fun _ => true) true 52 v d p) : ∃ (y1 : Res) (s1 : Value) (L1 : List (Ans × Value)) (y2 : Res) (s2 : Value) (L2 : List (Ans × Value)), v = .agg (rsV y1 s1 ++ rsV y2 s2).toArray ∧ (RsAt w y1 s1 L1 ∧ y1.int ∧ y1.sz) ∧ (RsAt w y2 s2 L2 ∧ y2.int ∧ y2.sz) := by
  have hv2 : ∃ cs, v = .agg cs ∧ cs.size = Try.prog.cellsOf 52 := by
    simp only [Value.okWide, Try.underlying52] at hv
    obtain ⟨cs, h1, h2, _⟩ := hv
    exact ⟨cs, h1, h2⟩
  obtain ⟨cs, rfl, hsz⟩ := hv2
  obtain ⟨fuel, hf⟩ := h
  have hf2 : DataW.trod enc Try.prog w 0 (fun _ => true) true fuel 52 cs.toList = some (d, p) := by simpa [Value.cells] using hf
  obtain ⟨xs, m, _, _, hl, hlen, hg⟩ := DataW.trod_array Try.underlying52 hf2
  rw [show Try.prog.cellsOf 52 = 10 by kernel_rfl] at hl
  obtain ⟨cl⟩ := cs
  match cl, hl, xs, hlen with
  | [c0, c1, c2, c3, c4, c5, c6, c7, c8, c9], _, [y0, y1], _ =>
    have h0 := hg 0 (by omega)
    have h1 := hg 1 (by omega)
    rw [crs] at h0 h1
    obtain ⟨g1, u1, M1, e1, r1⟩ := rs_cells (x := y0) (cs := [c0, c1, c2, c3, c4]) (by simpa using h0)
    obtain ⟨g2, u2, M2, e2, r2⟩ := rs_cells (x := y1) (cs := [c5, c6, c7, c8, c9]) (by simpa using h1)
    refine ⟨g1, u1, M1, g2, u2, M2, ?_, r1, r2⟩
    rw [← e1, ← e2]
    rfl
end
end Go.Proofs.Ytlcblkmmkphpmaa
