/- The walks of Sync.laid and of Encode at a Sync. Conditions: as each theorem says. -/
import Derived.Test.YtlbacddgjagcbaaValZ
import Derived.Deep.DeepCutAuto
namespace Go.Proofs.Ytlbacddgjagcbaa
open Go.RowKit

def syncHead (k p : Int) (f z : Int × Int) (b : List UInt8) (n : Int) : List UInt8 := numsL [3, k, p, f.1, f.2, z.1, z.2] ++ textL b ++ numsL [n]
def syncL (k p : Int) (f z : Int × Int) (b : List UInt8) (L : List Ent) : List UInt8 := syncHead k p f z b L.length ++ L.flatMap entL
theorem writeString_at (B b : Nat) (l s : List UInt8) (w : World) (h : BIs B b l w) (hlen : l.length + s.length ≤ 140737488355328) (hBw : B ≤ w.heap.size) (v : ByteArray) (hv : v = bs s) :
    Calls Try.prog 49 #[.pointer (some ⟨b, 0, none⟩), .string v] w fun e w' => e = .returned (.tuple #[.int .i64 (s.length : Int), .nilIface]) ∧ BIs B b (l ++ s) w' ∧ Below B w w' := by
  subst hv
  exact writeString_any B b l s w h hlen hBw
theorem entL_len (x : Ent) (h1 : i64B x.e) (h2 : i64B x.c) (hb : x.b.length ≤ 1000000) : (entL x).length ≤ 1000030 := by
  have hs1 := numsL_len [x.e, x.c] (i64_cons h1 (i64_cons h2 i64_nil))
  have hs2 := textL_len x.b (by omega)
  simp only [List.length_cons, List.length_nil] at hs1
  unfold entL
  rw [List.length_append]; omega
def entOk (x : Ent) : Prop := i64B x.e ∧ i64B x.c ∧ x.b.length ≤ 1000000
theorem ents_len (L : List Ent) (h : ∀ x ∈ L, entOk x) : (L.flatMap entL).length ≤ L.length * 1000030 := by
  induction L with
  | nil => simp
  | cons x L ih =>
    have h1 := h x (by simp)
    have h2 := entL_len x h1.1 h1.2.1 h1.2.2
    have h3 := ih (fun y hy => h y (by simp [hy]))
    rw [List.flatMap_cons, List.length_append, List.length_cons]; omega
theorem ents_step (L : List Ent) (i : Nat) (hi : i < L.length) : (L.take (i + 1)).flatMap entL = (L.take i).flatMap entL ++ entL L[i] := by
  rw [List.take_succ_eq_append_getElem hi, List.flatMap_append]; simp
theorem below_get {b : Nat} {w w' : World} {g j : Nat} {v : Value} (h : Below b w w') (hg : g < b) (hc : w.cell? ⟨g, j, none⟩ = some v) : w'.cell? ⟨g, j, none⟩ = some v := by rw [h.cell hg]; exact hc
theorem step3 {w0 c x : World} {o o2 : Obj} (h : Below w0.heap.size w0 c) (k : Below ((c.alloc o).alloc o2).heap.size ((c.alloc o).alloc o2) x) : Below w0.heap.size w0 x := ((h.alloc h.size o).alloc (by have := h.size; simp; omega) o2).trans (k.mono (by have := h.size; simp; omega))
theorem step3d {w0 c x : World} {o o2 : Obj} (h : Below w0.heap.size w0 c) (k : Below ((c.alloc o).alloc o2).drew.heap.size ((c.alloc o).alloc o2).drew x) : Below w0.heap.size w0 x := ((h.alloc h.size o).alloc (by have := h.size; simp; omega) o2).drew.trans (k.mono (by have := h.size; show _ ≤ ((c.alloc o).alloc o2).heap.size; simp; omega))
theorem ints_dr {g : Nat} {l : List Int} {w : World} (h : IntsAt g l w) : IntsAt g l w.drew := h
theorem ints_next (X : World) (o' : Obj) (l : List Int) (o : Obj) (ho : o = Obj.cells (l.map fun n => Value.int .i64 n).toArray 3 (0, 0)) : IntsAt (X.heap.size + 1) l ((X.alloc o').alloc o) := ints_new (X.alloc o') _ (by simp) l o ho
set_option maxRecDepth 100000 in
set_option maxHeartbeats 16000000 in
theorem syncLaid_any (k p : Int) (f z : Int × Int) (b : List UInt8) (L : List Ent) (a : Option Addr) (cap : Nat) (hi : ∀ x ∈ [3, k, p, f.1, f.2, z.1, z.2], i64B x) (hbl : b.length ≤ 1000000) (hl : L.length ≤ 1000) (hk : ∀ x ∈ L, entOk x) (w : World) (hE : EntsIn w a cap L) :
    Calls Try.prog 55 #[syncV k p f z b (.slice a L.length cap)] w fun e w' => e = .returned (.string (bs (syncL k p f z b L))) ∧ Below w.heap.size w w' := by
  have HSL : Hid (syncL k p f z b L = syncHead k p f z b L.length ++ L.flatMap entL) := rfl
  generalize syncL k p f z b L = R at *
  have HSH : Hid (syncHead k p f z b L.length = numsL [3, k, p, f.1, f.2, z.1, z.2] ++ textL b ++ numsL [(L.length : Int)]) := rfl
  generalize syncHead k p f z b L.length = S0 at *
  obtain ⟨f1, f2⟩ := f
  obtain ⟨z1, z2⟩ := z
  simp only at hi HSH
  have hn64 : i64B (L.length : Int) := ⟨by omega, by omega⟩
  have HN := Lib.hid (fun g X hX => nums_any [3, k, p, f1, f2, z1, z2] g 7 rfl (by omega) hi X hX)
  have HX := Lib.hid (fun (X : World) g hg => ints_new X g hg [3, k, p, f1, f2, z1, z2] _ rfl)
  have HXd := Lib.hid (fun (X : World) => ints_drew X [3, k, p, f1, f2, z1, z2] _ rfl)
  have HM := Lib.hid (fun g X hX => nums_any [(L.length : Int)] g 1 rfl (by omega) (i64_cons hn64 i64_nil) X hX)
  have HY := Lib.hid (fun (X : World) g hg => ints_new X g hg [(L.length : Int)] _ rfl)
  have HYd := Lib.hid (fun (X : World) => ints_drew X [(L.length : Int)] _ rfl)
  have HXn := Lib.hid (fun (X : World) o' => ints_next X o' [3, k, p, f1, f2, z1, z2] _ rfl)
  have HYn := Lib.hid (fun (X : World) o' => ints_next X o' [(L.length : Int)] _ rfl)
  simp only [List.map_cons, List.map_nil] at HX HXd HY HYd HXn HYn
  have HT := Lib.hid (fun X => text_any b (by omega) X)
  have hs1 := numsL_len [3, k, p, f1, f2, z1, z2] hi
  have hs2 := numsL_len [(L.length : Int)] (i64_cons hn64 i64_nil)
  have hs3 := textL_len b (by omega)
  simp only [List.length_cons, List.length_nil] at hs1 hs2
  have q1 : (bs (numsL [3, k, p, f1, f2, z1, z2])).size ≤ 70 := by rw [bs_size]; omega
  have q2 : (bs (numsL [(L.length : Int)])).size ≤ 10 := by rw [bs_size]; omega
  have q3 : (bs (textL b)).size ≤ 1000010 := by rw [bs_size]; omega
  have hS0 : S0.length ≤ 1000100 := by rw [HSH.out]; simp only [List.length_append]; omega
  have HTL := Lib.hid hk
  generalize numsL [3, k, p, f1, f2, z1, z2] = A at *
  generalize numsL [(L.length : Int)] = C at *
  generalize textL b = B at *
  unfold syncV
  simp only
  obtain ⟨W0, hW0⟩ : ∃ X, X = w.alloc (.cells #[.int .i64 k, .int .i64 p, .int .i64 f1, .int .i64 f2, .int .i64 z1, .int .i64 z2, .string (bs b), .slice a L.length cap] 99) := ⟨_, rfl⟩
  have hB0 : Below w.heap.size w W0 := by rw [hW0]; exact alloc_below w _
  have hk0 : W0.heap[w.heap.size]? = some (.cells #[.int .i64 k, .int .i64 p, .int .i64 f1, .int .i64 f2, .int .i64 z1, .int .i64 z2, .string (bs b), .slice a L.length cap] 99 (0, 0)) := by rw [hW0]; exact heap_alloc_new w _
  have hz0 : W0.heap.size = w.heap.size + 1 := by rw [hW0]; simp
  have hE0 := hE.grew hB0
  have c0 : W0.cell? ⟨w.heap.size, 0, none⟩ = some (.int .i64 k) := by rw [Lib.cell_of_heap hk0]; rfl
  have c1 : W0.cell? ⟨w.heap.size, 1, none⟩ = some (.int .i64 p) := by rw [Lib.cell_of_heap hk0]; rfl
  have c2 : W0.cell? ⟨w.heap.size, 2, none⟩ = some (.int .i64 f1) := by rw [Lib.cell_of_heap hk0]; rfl
  have c3 : W0.cell? ⟨w.heap.size, 3, none⟩ = some (.int .i64 f2) := by rw [Lib.cell_of_heap hk0]; rfl
  have c4 : W0.cell? ⟨w.heap.size, 4, none⟩ = some (.int .i64 z1) := by rw [Lib.cell_of_heap hk0]; rfl
  have c5 : W0.cell? ⟨w.heap.size, 5, none⟩ = some (.int .i64 z2) := by rw [Lib.cell_of_heap hk0]; rfl
  have c6 : W0.cell? ⟨w.heap.size, 6, none⟩ = some (.string (bs b)) := by rw [Lib.cell_of_heap hk0]; rfl
  have c7 : W0.cell? ⟨w.heap.size, 7, none⟩ = some (.slice a L.length cap) := by rw [Lib.cell_of_heap hk0]; rfl
  obtain ⟨W, hW⟩ : ∃ X, X = W0.alloc (.cells #[.pointer none, .slice none 0 0] 85) := ⟨_, rfl⟩
  have hI : BIs W0.heap.size W0.heap.size [] W := by rw [hW]; exact Lib.fresh_isBuilder 85 5 W0
  have hBW : Below W0.heap.size W0 W := by rw [hW]; exact alloc_below W0 _
  have HB0 := Lib.hid hB0
  have HW0 := Lib.hid hW0
  have HW := Lib.hid hW
  have HZ0 := Lib.hid hz0
  clear hW0 hW hk0 hs1 hs2 hs3 hi hbl hB0 hE hn64 hk
  go_enter Try.func55, Try.ntmps55
  go_upto_region 2 with (fail)
  rw [← HW0.out, ← HW.out, ← HZ0.out]
  have hgh : w.heap.size < W0.heap.size := by rw [HZ0.out]; omega
  clear HW0 HW hz0
  generalize hg : w.heap.size = g at *
  have HG := Lib.hid hg
  clear hg
  generalize hh : W0.heap.size = h at *
  have HH := Lib.hid hh
  clear hh
  go_cut [] (fun wx => BIs h h S0 wx ∧ Below h W0 wx)
  case first =>
    have hB := Below.refl W.heap.size W
    have hhW : h ≤ W.heap.size := by have := hBW.size; rw [HH.out] at this; exact this
    have d0 := below_get hBW hgh c0
    have d1 := below_get hBW hgh c1
    have d2 := below_get hBW hgh c2
    have d3 := below_get hBW hgh c3
    have d4 := below_get hBW hgh c4
    have d5 := below_get hBW hgh c5
    have d6 := below_get hBW hgh c6
    have d7 := below_get hBW hgh c7
    have q4 : ¬ 9223372036854775807 < (bs A).size + (bs B).size := by rw [bs_size, bs_size]; have q1' := q1; have q3' := q3; rw [bs_size] at q1' q3'; omega
    have q5 : ¬ 9223372036854775807 < (bs A ++ bs B).size + (bs C).size := by rw [bs_append, bs_size, List.length_append]; have q1' := q1; have q2' := q2; have q3' := q3; rw [bs_size] at q1' q2' q3'; omega
    have q6 : ¬ 9223372036854775807 < (bs A).size + (bs B).size + (bs C).size := by rw [bs_size, bs_size, bs_size]; have q1' := q1; have q2' := q2; have q3' := q3; rw [bs_size] at q1' q2' q3'; omega
    clear c0 c1 c2 c3 c4 c5 c6 c7
    go_region_held3 (fun w' => w'.cell? ⟨g, 0, none⟩ = some (.int .i64 k) ∧ w'.cell? ⟨g, 1, none⟩ = some (.int .i64 p) ∧ w'.cell? ⟨g, 2, none⟩ = some (.int .i64 f1) ∧ w'.cell? ⟨g, 3, none⟩ = some (.int .i64 f2) ∧ w'.cell? ⟨g, 4, none⟩ = some (.int .i64 z1) ∧ w'.cell? ⟨g, 5, none⟩ = some (.int .i64 z2) ∧ w'.cell? ⟨g, 6, none⟩ = some (.string (bs b)) ∧ w'.cell? ⟨g, 7, none⟩ = some (.slice a L.length cap)) (first | exact ⟨below_get hbY hgh (Grew.cell hB d0), below_get hbY hgh (Grew.cell hB d1), below_get hbY hgh (Grew.cell hB d2), below_get hbY hgh (Grew.cell hB d3), below_get hbY hgh (Grew.cell hB d4), below_get hbY hgh (Grew.cell hB d5), below_get hbY hgh (Grew.cell hB d6), below_get hbY hgh (Grew.cell hB d7)⟩ | exact ⟨Grew.cell hB d0, Grew.cell hB d1, Grew.cell hB d2, Grew.cell hB d3, Grew.cell hB d4, Grew.cell hB d5, Grew.cell hB d6, Grew.cell hB d7⟩ | go_keep) (first | (go_at_call 54; (with_reducible refine (HN.out _ _ (by (first | exact HX.out _ _ rfl | exact HXd.out _ | exact HXn.out _ _ | (refine IntsAt.grew ?_ (by first | exact hbT | exact hbM | exact hbN | exact alloc_below _ _); (first | exact HX.out _ _ rfl | exact HXd.out _ | exact HXn.out _ _ | (refine IntsAt.grew ?_ (by first | exact hbT | exact hbM | exact hbN | exact alloc_below _ _); (first | exact HX.out _ _ rfl | exact HXd.out _ | exact HXn.out _ _ | (refine IntsAt.grew ?_ (by first | exact hbT | exact hbM | exact hbN | exact alloc_below _ _); (first | exact HX.out _ _ rfl | exact HXd.out _ | exact HXn.out _ _ | (refine IntsAt.grew ?_ (by first | exact hbT | exact hbM | exact hbN | exact alloc_below _ _); (first | exact HX.out _ _ rfl | exact HXd.out _ | exact HXn.out _ _)) | (refine ints_dr ?_; (first | exact HX.out _ _ rfl | exact HXd.out _ | exact HXn.out _ _)))) | (refine ints_dr ?_; (first | exact HX.out _ _ rfl | exact HXd.out _ | exact HXn.out _ _ | (refine IntsAt.grew ?_ (by first | exact hbT | exact hbM | exact hbN | exact alloc_below _ _); (first | exact HX.out _ _ rfl | exact HXd.out _ | exact HXn.out _ _)) | (refine ints_dr ?_; (first | exact HX.out _ _ rfl | exact HXd.out _ | exact HXn.out _ _)))))) | (refine ints_dr ?_; (first | exact HX.out _ _ rfl | exact HXd.out _ | exact HXn.out _ _ | (refine IntsAt.grew ?_ (by first | exact hbT | exact hbM | exact hbN | exact alloc_below _ _); (first | exact HX.out _ _ rfl | exact HXd.out _ | exact HXn.out _ _ | (refine IntsAt.grew ?_ (by first | exact hbT | exact hbM | exact hbN | exact alloc_below _ _); (first | exact HX.out _ _ rfl | exact HXd.out _ | exact HXn.out _ _)) | (refine ints_dr ?_; (first | exact HX.out _ _ rfl | exact HXd.out _ | exact HXn.out _ _)))) | (refine ints_dr ?_; (first | exact HX.out _ _ rfl | exact HXd.out _ | exact HXn.out _ _ | (refine IntsAt.grew ?_ (by first | exact hbT | exact hbM | exact hbN | exact alloc_below _ _); (first | exact HX.out _ _ rfl | exact HXd.out _ | exact HXn.out _ _)) | (refine ints_dr ?_; (first | exact HX.out _ _ rfl | exact HXd.out _ | exact HXn.out _ _)))))))) | (refine ints_dr ?_; (first | exact HX.out _ _ rfl | exact HXd.out _ | exact HXn.out _ _ | (refine IntsAt.grew ?_ (by first | exact hbT | exact hbM | exact hbN | exact alloc_below _ _); (first | exact HX.out _ _ rfl | exact HXd.out _ | exact HXn.out _ _ | (refine IntsAt.grew ?_ (by first | exact hbT | exact hbM | exact hbN | exact alloc_below _ _); (first | exact HX.out _ _ rfl | exact HXd.out _ | exact HXn.out _ _ | (refine IntsAt.grew ?_ (by first | exact hbT | exact hbM | exact hbN | exact alloc_below _ _); (first | exact HX.out _ _ rfl | exact HXd.out _ | exact HXn.out _ _)) | (refine ints_dr ?_; (first | exact HX.out _ _ rfl | exact HXd.out _ | exact HXn.out _ _)))) | (refine ints_dr ?_; (first | exact HX.out _ _ rfl | exact HXd.out _ | exact HXn.out _ _ | (refine IntsAt.grew ?_ (by first | exact hbT | exact hbM | exact hbN | exact alloc_below _ _); (first | exact HX.out _ _ rfl | exact HXd.out _ | exact HXn.out _ _)) | (refine ints_dr ?_; (first | exact HX.out _ _ rfl | exact HXd.out _ | exact HXn.out _ _)))))) | (refine ints_dr ?_; (first | exact HX.out _ _ rfl | exact HXd.out _ | exact HXn.out _ _ | (refine IntsAt.grew ?_ (by first | exact hbT | exact hbM | exact hbN | exact alloc_below _ _); (first | exact HX.out _ _ rfl | exact HXd.out _ | exact HXn.out _ _ | (refine IntsAt.grew ?_ (by first | exact hbT | exact hbM | exact hbN | exact alloc_below _ _); (first | exact HX.out _ _ rfl | exact HXd.out _ | exact HXn.out _ _)) | (refine ints_dr ?_; (first | exact HX.out _ _ rfl | exact HXd.out _ | exact HXn.out _ _)))) | (refine ints_dr ?_; (first | exact HX.out _ _ rfl | exact HXd.out _ | exact HXn.out _ _ | (refine IntsAt.grew ?_ (by first | exact hbT | exact hbM | exact hbN | exact alloc_below _ _); (first | exact HX.out _ _ rfl | exact HXd.out _ | exact HXn.out _ _)) | (refine ints_dr ?_; (first | exact HX.out _ _ rfl | exact HXd.out _ | exact HXn.out _ _))))))))))).mono ?_); rintro e wX ⟨rfl, hbN⟩; first | have hB := step0 hB hbN | have hB := step1 hB hbN | have hB := step2 hB hbN | have hB := step0d hB hbN | have hB := step3 hB hbN | have hB := step3d hB hbN) | (go_at_call 54; (with_reducible refine (HM.out _ _ (by (first | exact HY.out _ _ rfl | exact HYd.out _ | exact HYn.out _ _ | (refine IntsAt.grew ?_ (by first | exact hbT | exact hbM | exact hbN | exact alloc_below _ _); (first | exact HY.out _ _ rfl | exact HYd.out _ | exact HYn.out _ _ | (refine IntsAt.grew ?_ (by first | exact hbT | exact hbM | exact hbN | exact alloc_below _ _); (first | exact HY.out _ _ rfl | exact HYd.out _ | exact HYn.out _ _ | (refine IntsAt.grew ?_ (by first | exact hbT | exact hbM | exact hbN | exact alloc_below _ _); (first | exact HY.out _ _ rfl | exact HYd.out _ | exact HYn.out _ _ | (refine IntsAt.grew ?_ (by first | exact hbT | exact hbM | exact hbN | exact alloc_below _ _); (first | exact HY.out _ _ rfl | exact HYd.out _ | exact HYn.out _ _)) | (refine ints_dr ?_; (first | exact HY.out _ _ rfl | exact HYd.out _ | exact HYn.out _ _)))) | (refine ints_dr ?_; (first | exact HY.out _ _ rfl | exact HYd.out _ | exact HYn.out _ _ | (refine IntsAt.grew ?_ (by first | exact hbT | exact hbM | exact hbN | exact alloc_below _ _); (first | exact HY.out _ _ rfl | exact HYd.out _ | exact HYn.out _ _)) | (refine ints_dr ?_; (first | exact HY.out _ _ rfl | exact HYd.out _ | exact HYn.out _ _)))))) | (refine ints_dr ?_; (first | exact HY.out _ _ rfl | exact HYd.out _ | exact HYn.out _ _ | (refine IntsAt.grew ?_ (by first | exact hbT | exact hbM | exact hbN | exact alloc_below _ _); (first | exact HY.out _ _ rfl | exact HYd.out _ | exact HYn.out _ _ | (refine IntsAt.grew ?_ (by first | exact hbT | exact hbM | exact hbN | exact alloc_below _ _); (first | exact HY.out _ _ rfl | exact HYd.out _ | exact HYn.out _ _)) | (refine ints_dr ?_; (first | exact HY.out _ _ rfl | exact HYd.out _ | exact HYn.out _ _)))) | (refine ints_dr ?_; (first | exact HY.out _ _ rfl | exact HYd.out _ | exact HYn.out _ _ | (refine IntsAt.grew ?_ (by first | exact hbT | exact hbM | exact hbN | exact alloc_below _ _); (first | exact HY.out _ _ rfl | exact HYd.out _ | exact HYn.out _ _)) | (refine ints_dr ?_; (first | exact HY.out _ _ rfl | exact HYd.out _ | exact HYn.out _ _)))))))) | (refine ints_dr ?_; (first | exact HY.out _ _ rfl | exact HYd.out _ | exact HYn.out _ _ | (refine IntsAt.grew ?_ (by first | exact hbT | exact hbM | exact hbN | exact alloc_below _ _); (first | exact HY.out _ _ rfl | exact HYd.out _ | exact HYn.out _ _ | (refine IntsAt.grew ?_ (by first | exact hbT | exact hbM | exact hbN | exact alloc_below _ _); (first | exact HY.out _ _ rfl | exact HYd.out _ | exact HYn.out _ _ | (refine IntsAt.grew ?_ (by first | exact hbT | exact hbM | exact hbN | exact alloc_below _ _); (first | exact HY.out _ _ rfl | exact HYd.out _ | exact HYn.out _ _)) | (refine ints_dr ?_; (first | exact HY.out _ _ rfl | exact HYd.out _ | exact HYn.out _ _)))) | (refine ints_dr ?_; (first | exact HY.out _ _ rfl | exact HYd.out _ | exact HYn.out _ _ | (refine IntsAt.grew ?_ (by first | exact hbT | exact hbM | exact hbN | exact alloc_below _ _); (first | exact HY.out _ _ rfl | exact HYd.out _ | exact HYn.out _ _)) | (refine ints_dr ?_; (first | exact HY.out _ _ rfl | exact HYd.out _ | exact HYn.out _ _)))))) | (refine ints_dr ?_; (first | exact HY.out _ _ rfl | exact HYd.out _ | exact HYn.out _ _ | (refine IntsAt.grew ?_ (by first | exact hbT | exact hbM | exact hbN | exact alloc_below _ _); (first | exact HY.out _ _ rfl | exact HYd.out _ | exact HYn.out _ _ | (refine IntsAt.grew ?_ (by first | exact hbT | exact hbM | exact hbN | exact alloc_below _ _); (first | exact HY.out _ _ rfl | exact HYd.out _ | exact HYn.out _ _)) | (refine ints_dr ?_; (first | exact HY.out _ _ rfl | exact HYd.out _ | exact HYn.out _ _)))) | (refine ints_dr ?_; (first | exact HY.out _ _ rfl | exact HYd.out _ | exact HYn.out _ _ | (refine IntsAt.grew ?_ (by first | exact hbT | exact hbM | exact hbN | exact alloc_below _ _); (first | exact HY.out _ _ rfl | exact HYd.out _ | exact HYn.out _ _)) | (refine ints_dr ?_; (first | exact HY.out _ _ rfl | exact HYd.out _ | exact HYn.out _ _))))))))))).mono ?_); rintro e wX ⟨rfl, hbM⟩; first | have hB := step0 hB hbM | have hB := step1 hB hbM | have hB := step2 hB hbM | have hB := step0d hB hbM | have hB := step3 hB hbM | have hB := step3d hB hbM) | (go_at_call 18; (with_reducible refine (HT.out _).mono ?_); rintro e wX ⟨rfl, hbT⟩; first | have hB := step0 hB hbT | have hB := step1 hB hbT | have hB := step2 hB hbT | have hB := step0d hB hbT | have hB := step3 hB hbT | have hB := step3d hB hbT) | (go_at_call 49; (with_reducible refine (writeString_at h h [] S0 _ (BIs.below hI hB) (by simp only [List.length_nil]; omega) (Nat.le_trans hhW hB.size) _ (by rw [HSH.out, ← bs_append, ← bs_append])).mono ?_); rintro e wY ⟨rfl, hIY, hbY⟩))
    all_goals go_wp2_with fail
    all_goals go_meet
    all_goals exact ⟨hIY, (hBW.trans (hB.mono hhW)).trans hbY⟩
  case rest =>
    obtain ⟨hIc, hbc⟩ := hcut
    have d7 := below_get hbc hgh c7
    clear c0 c1 c2 c3 c4 c5 c6 HN HM HX HY HXd HYd HXn HYn HT hI hBW W q1 q2 q3
    go_wp2_with (fail)
    go_loopw [38] (fun v38 wr => ∃ (i : Nat), v38 = .int .i64 (i : Int) ∧ i ≤ L.length ∧ BIs h h (S0 ++ (L.take i).flatMap entL) wr ∧ Below h W0 wr) (fun v38 _ => L.length - (intOf v38).toNat)
    case atStart => exact ⟨0, rfl, by omega, by simpa using hIc, hbc⟩
    case round =>
      obtain ⟨i, rfl, hi, hI, hb⟩ := hrel
      have HBr := Lib.hid hb
      have hhr : h ≤ wr.heap.size := by have := hb.size; rw [HH.out] at this; exact this
      by_cases hp : i < L.length
      · as_aux_lemma =>
        have hEr : EntsIn wr a cap L := by
          have hb' : Below W0.heap.size W0 wr := by rw [HH.out]; exact hb
          exact hE0.grew hb'
        obtain ⟨bb, off, rfl, e0, e1, e2⟩ := ents_get hEr.2.2.1 i hp
        have hx := HTL.out _ (List.getElem_mem hp)
        have hlen : (S0 ++ (L.take i).flatMap entL).length ≤ 1000100 + 1000 * 1000030 := by
          have := ents_len (L.take i) (fun y hy => HTL.out y (List.mem_of_mem_take hy))
          rw [List.length_take] at this
          rw [List.length_append]
          omega
        have hxl := entL_len _ hx.1 hx.2.1 hx.2.2
        have HS := Lib.hid (ents_step L i hp)
        have HL := Lib.hid (fun X => entLaid_any L[i] hx.1 hx.2.1 hx.2.2 X)
        generalize L[i] = x at *
        unfold entV at HL
        generalize entL x = E at *
        clear hEr hx HTL hE0 HB0 hbc hIc d7 c7
        go_wp2_with (fail)
        refine (HL.out _).mono ?_
        rintro e w1 ⟨rfl, hb1⟩
        have hI1 := BIs.below (BIs.below hI (alloc_below wr _)) hb1
        have hr1 : h ≤ w1.heap.size := by have := hb1.size; simp at this; omega
        go_wp2_with (fail)
        refine (writeString_at h h _ E _ hI1 (by omega) hr1 _ rfl).mono ?_
        rintro e w2 ⟨rfl, hI2, hb2⟩
        have hB2 : Below h W0 w2 := ((HBr.out.alloc hhr _).trans (hb1.mono (by simp; omega))).trans hb2
        go_wp2
        go_roundw
        case rel => exact ⟨i + 1, by go_num, by omega, by rw [HS.out, ← List.append_assoc]; exact hI2, hB2⟩
        case measure => simp [intOf]; omega
      · as_aux_lemma =>
        rw [List.take_of_length_le (by omega)] at hI
        go_wp2_with (fail)
        refine (builderString_any h h _ _ hI hhr).mono ?_
        rintro e w1 ⟨rfl, hb1⟩
        go_wp2
        go_ret
        exact ⟨by rw [HSL.out]; rfl, (by rw [HG.out]; exact HB0.out : Below w.heap.size w W0).trans ((HBr.out.trans hb1).mono (by rw [HG.out]; omega))⟩
set_option maxRecDepth 100000 in
set_option maxHeartbeats 4000000 in
theorem encode_sync (k p : Int) (f z : Int × Int) (b : List UInt8) (L : List Ent) (a : Option Addr) (cap : Nat) (hr : syncB k p f z b L = true) (hi : ∀ x ∈ [3, k, p, f.1, f.2, z.1, z.2], i64B x) (hbl : b.length ≤ 1000000) (hl : L.length ≤ 1000) (hk : ∀ x ∈ L, entOk x) (w : World) (hE : EntsIn w a cap L) :
    Calls Try.prog 37 #[.iface 99 (syncV k p f z b (.slice a L.length cap))] w fun e w' => EncSaid (syncL k p f z b L) 0 w e w' := by
  have HR := Lib.hid (fun X hX => right_sync k p f z b L a cap X hX (by unfold maxLen; omega))
  unfold RightSaid at HR
  rw [hr] at HR
  have HL := Lib.hid (fun X hX => syncLaid_any k p f z b L a cap hi hbl hl hk X hX)
  generalize syncL k p f z b L = S at *
  have HE := Lib.hid (fun X (hX : Below w.heap.size w X) => hE.grew hX)
  obtain ⟨f1, f2⟩ := f
  obtain ⟨z1, z2⟩ := z
  unfold syncV at HR HL ⊢
  simp only at HR HL ⊢
  have n_vote := no_vote 99 (by decide) (.agg #[.int .i64 k, .int .i64 p, .int .i64 f1, .int .i64 f2, .int .i64 z1, .int .i64 z2, .string (bs b), .slice a L.length cap])
  have n_info := no_info 99 (by decide) (.agg #[.int .i64 k, .int .i64 p, .int .i64 f1, .int .i64 f2, .int .i64 z1, .int .i64 z2, .string (bs b), .slice a L.length cap])
  have y1 := yes_sync (.agg #[.int .i64 k, .int .i64 p, .int .i64 f1, .int .i64 f2, .int .i64 z1, .int .i64 z2, .string (bs b), .slice a L.length cap])
  clear hr hi hbl hk hE
  go_enter Try.func37, Try.ntmps37
  go_wp2_with (fail)
  refine (HR.out _ (HE.out _ (Below.refl _ _))).mono ?_
  rintro e w1 ⟨rfl, hb⟩
  have HB : Hid (∀ o, Below w.heap.size w (w1.alloc o)) := fun o => hb.alloc hb.size o
  go_wp2_with (fail)
  refine (HL.out _ (HE.out _ (HB.out _))).mono ?_
  rintro e w2 ⟨rfl, hb2⟩
  have hB2 := (HB.out _).trans (hb2.mono (HB.out _).size)
  go_wp2
  go_ret2
  exact ⟨rfl, hB2⟩
end Go.Proofs.Ytlbacddgjagcbaa
