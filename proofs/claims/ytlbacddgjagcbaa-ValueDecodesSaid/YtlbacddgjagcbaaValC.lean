/- The walks of Encode of an Ack and of what is no message. Conditions: as each theorem says. -/
import Derived.Test.YtlbacddgjagcbaaValB
import Derived.Deep.RegionHeld3
namespace Go.Proofs.Ytlbacddgjagcbaa
open Go.RowKit

theorem step0 {w0 c x : World} (h : Below w0.heap.size w0 c) (k : Below c.heap.size c x) : Below w0.heap.size w0 x := h.trans (k.mono h.size)
theorem step1 {w0 c x : World} {o : Obj} (h : Below w0.heap.size w0 c) (k : Below (c.alloc o).heap.size (c.alloc o) x) : Below w0.heap.size w0 x := (h.alloc h.size o).trans (k.mono (Nat.le_trans h.size (by simp)))
theorem step2 {w0 c x : World} {o : Obj} (h : Below w0.heap.size w0 c) (k : Below (c.alloc o).drew.heap.size (c.alloc o).drew x) : Below w0.heap.size w0 x := (h.alloc h.size o).drew.trans (k.mono (Nat.le_trans h.size (by simp)))
def EncSaid (s : List UInt8) (k : Nat) (w : World) (e : Ending) (w' : World) : Prop := e = .returned (.tuple #[.string (bs s), .int .i64 (k : Int)]) ∧ Below w.heap.size w w'
set_option maxRecDepth 100000 in
theorem encode_int (n : Int) (w : World) : Calls Try.prog 37 #[.iface 3 (.int .i64 n)] w fun e w' => EncSaid [] 14 w e w' := by
  have HR := Lib.hid (fun X => right_int n X)
  unfold RightSaid at HR
  go_enter Try.func37, Try.ntmps37
  go_wp2_with (fail)
  refine (HR.out _).mono ?_
  rintro e w1 ⟨rfl, hb⟩
  go_wp2
  go_ret2
  exact ⟨rfl, hb⟩
set_option maxRecDepth 100000 in
theorem encode_nil (w : World) : Calls Try.prog 37 #[.nilIface] w fun e w' => EncSaid [] 14 w e w' := by
  have HR := Lib.hid (fun X => right_nil X)
  unfold RightSaid at HR
  go_enter Try.func37, Try.ntmps37
  go_wp2_with (fail)
  refine (HR.out _).mono ?_
  rintro e w1 ⟨rfl, hb⟩
  go_wp2
  go_ret2
  exact ⟨rfl, hb⟩
/-- What is no right message is refused. -/
theorem encode_no (v : Value) (w : World) (h : ∀ X, Calls Try.prog 53 #[v] X fun e w' => RightSaid false true X e w') : Calls Try.prog 37 #[v] w fun e w' => EncSaid [] 1 w e w' := by
  have HR := Lib.hid h
  unfold RightSaid at HR
  clear h
  go_enter Try.func37, Try.ntmps37
  go_wp2_with (fail)
  refine (HR.out _).mono ?_
  rintro e w1 ⟨rfl, hb⟩
  go_wp2
  go_ret2
  exact ⟨rfl, hb⟩
theorem i64_nil : ∀ x ∈ ([] : List Int), i64B x := by simp
theorem i64_cons {n : Int} {l : List Int} (h : i64B n) (t : ∀ x ∈ l, i64B x) : ∀ x ∈ n :: l, i64B x := by
  intro x hx
  rcases List.mem_cons.1 hx with rfl | hx
  · exact h
  · exact t x hx
def flagI (f : Bool) : Int := if f = true then 1 else 0
theorem flagI_i64 (f : Bool) : i64B (flagI f) := by cases f <;> exact ⟨by decide, by decide⟩
set_option maxRecDepth 100000 in
set_option maxHeartbeats 1000000 in
theorem encode_ack (f : Bool) (z : Int × Int) (hz : zxB z = true) (h1 : i64B z.1) (h2 : i64B z.2) (w : World) : Calls Try.prog 37 #[.iface 94 (ackV f z)] w fun e w' => EncSaid (numsL [5, flagI f, z.1, z.2]) 0 w e w' := by
  have HR := Lib.hid (fun X => right_ack f z X)
  unfold RightSaid at HR
  rw [hz] at HR
  have HF : Hid (∀ X, Calls Try.prog 57 #[.bool f] X fun e w' => e = .returned (.int .i64 (flagI f)) ∧ X = w') := fun X => flag_any f X
  have hfi := flagI_i64 f
  obtain ⟨a, b⟩ := z
  generalize flagI f = F at *
  have HN := Lib.hid (fun g X hX => nums_any [5, F, a, b] g 4 rfl (by omega) (i64_cons ⟨by decide, by decide⟩ (i64_cons hfi (i64_cons h1 (i64_cons h2 i64_nil)))) X hX)
  have HX := Lib.hid (fun (X : World) g hg => ints_new X g hg [5, F, a, b] _ rfl)
  simp only [List.map_cons, List.map_nil] at HX
  have HXd : Hid (∀ X : World, IntsAt X.heap.size [5, F, a, b] (X.alloc (.cells #[.int .i64 5, .int .i64 F, .int .i64 a, .int .i64 b] 3)).drew) := fun X => BlkAt.drew (HX.out X _ rfl)
  generalize numsL [5, F, a, b] = S at *
  unfold ackV at HR
  unfold ackV
  have n_vote := no_vote 94 (by decide) (.agg #[.bool f, .int .i64 a, .int .i64 b])
  have n_info := no_info 94 (by decide) (.agg #[.bool f, .int .i64 a, .int .i64 b])
  have n_sync := no_sync 94 (by decide) (.agg #[.bool f, .int .i64 a, .int .i64 b])
  have n_propose := no_propose 94 (by decide) (.agg #[.bool f, .int .i64 a, .int .i64 b])
  have y1 := yes_ack (.agg #[.bool f, .int .i64 a, .int .i64 b])
  clear hz h1 h2 hfi
  go_enter Try.func37, Try.ntmps37
  go_wp2_with (fail)
  refine (HR.out _).mono ?_
  rintro e w1 ⟨rfl, hb⟩
  go_wp2_with (fail)
  have hB := alloc_below w1 (.cells #[.bool f, .int .i64 a, .int .i64 b] 94)
  have c0 : (w1.alloc (.cells #[.bool f, .int .i64 a, .int .i64 b] 94)).cell? ⟨w1.heap.size, 0, none⟩ = some (.bool f) := by simp
  have c1 : (w1.alloc (.cells #[.bool f, .int .i64 a, .int .i64 b] 94)).cell? ⟨w1.heap.size, 1, none⟩ = some (.int .i64 a) := by simp
  have c2 : (w1.alloc (.cells #[.bool f, .int .i64 a, .int .i64 b] 94)).cell? ⟨w1.heap.size, 2, none⟩ = some (.int .i64 b) := by simp
  generalize hW : w1.alloc (.cells #[.bool f, .int .i64 a, .int .i64 b] 94) = W at *
  clear hW
  have Hw1 := Lib.hid hB
  clear hB
  have hB := Below.refl W.heap.size W
  go_region_held3 (fun w' => w'.cell? ⟨w1.heap.size, 0, none⟩ = some (.bool f) ∧ w'.cell? ⟨w1.heap.size, 1, none⟩ = some (.int .i64 a) ∧ w'.cell? ⟨w1.heap.size, 2, none⟩ = some (.int .i64 b)) (first | exact ⟨Grew.cell hB c0, Grew.cell hB c1, Grew.cell hB c2⟩ | go_keep) (first | (go_at_call 57; (with_reducible refine (HF.out _).mono ?_); rintro e wX ⟨rfl, rfl⟩) | (go_at_call 54; (with_reducible refine (HN.out _ _ (HXd.out _)).mono ?_); rintro e wX ⟨rfl, hbX⟩; have hB := step2 hB hbX))
  all_goals go_wp2
  all_goals go_ret2
  all_goals exact ⟨rfl, step0 (step0 hb Hw1.out) hB⟩
end Go.Proofs.Ytlbacddgjagcbaa
