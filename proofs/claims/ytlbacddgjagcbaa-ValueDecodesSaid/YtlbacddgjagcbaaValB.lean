/- The walks of value's right, a kind at a time. Conditions: as each theorem says. -/
import Derived.Test.YtlbacddgjagcbaaValA
import Derived.Test.YtlbacddgjagcbaaAsr
namespace Go.Proofs.Ytlbacddgjagcbaa
open Go.RowKit

theorem no_vote (T : TypeId) (h : T ≠ 65) (v : Value) (W : World) : (Instr.typeAssert (.iface T v) 20 65 true).run Try.prog W = .ok (.tuple #[.agg #[.int .i64 0, .int .i64 0, .int .i64 0, .int .i64 0, .int .i64 0, .int .i64 0], .bool false]) W := run_assert_no (P := Try.prog) T 65 20 v _ _ Try.underlying65 rfl h W (Try.zeroValue65 W)
theorem yes_vote (v : Value) (W : World) : (Instr.typeAssert (.iface 65 v) 20 65 true).run Try.prog W = .ok (.tuple #[v, .bool true]) W := run_assert_yes (P := Try.prog) 65 20 v _ Try.underlying65 rfl W
theorem nil_vote (W : World) : (Instr.typeAssert .nilIface 20 65 true).run Try.prog W = .ok (.tuple #[.agg #[.int .i64 0, .int .i64 0, .int .i64 0, .int .i64 0, .int .i64 0, .int .i64 0], .bool false]) W := run_assert_nil (P := Try.prog) 65 20 _ _ Try.underlying65 rfl W (Try.zeroValue65 W)
theorem no_info (T : TypeId) (h : T ≠ 97) (v : Value) (W : World) : (Instr.typeAssert (.iface T v) 20 97 true).run Try.prog W = .ok (.tuple #[.agg #[.int .i64 0, .int .i64 0, .int .i64 0, .int .i64 0, .int .i64 0], .bool false]) W := run_assert_no (P := Try.prog) T 97 20 v _ _ Try.underlying97 rfl h W (Try.zeroValue97 W)
theorem yes_info (v : Value) (W : World) : (Instr.typeAssert (.iface 97 v) 20 97 true).run Try.prog W = .ok (.tuple #[v, .bool true]) W := run_assert_yes (P := Try.prog) 97 20 v _ Try.underlying97 rfl W
theorem nil_info (W : World) : (Instr.typeAssert .nilIface 20 97 true).run Try.prog W = .ok (.tuple #[.agg #[.int .i64 0, .int .i64 0, .int .i64 0, .int .i64 0, .int .i64 0], .bool false]) W := run_assert_nil (P := Try.prog) 97 20 _ _ Try.underlying97 rfl W (Try.zeroValue97 W)
theorem no_sync (T : TypeId) (h : T ≠ 99) (v : Value) (W : World) : (Instr.typeAssert (.iface T v) 20 99 true).run Try.prog W = .ok (.tuple #[.agg #[.int .i64 0, .int .i64 0, .int .i64 0, .int .i64 0, .int .i64 0, .int .i64 0, .string ⟨#[]⟩, .slice none 0 0], .bool false]) W := run_assert_no (P := Try.prog) T 99 20 v _ _ Try.underlying99 rfl h W (Try.zeroValue99 W)
theorem yes_sync (v : Value) (W : World) : (Instr.typeAssert (.iface 99 v) 20 99 true).run Try.prog W = .ok (.tuple #[v, .bool true]) W := run_assert_yes (P := Try.prog) 99 20 v _ Try.underlying99 rfl W
theorem nil_sync (W : World) : (Instr.typeAssert .nilIface 20 99 true).run Try.prog W = .ok (.tuple #[.agg #[.int .i64 0, .int .i64 0, .int .i64 0, .int .i64 0, .int .i64 0, .int .i64 0, .string ⟨#[]⟩, .slice none 0 0], .bool false]) W := run_assert_nil (P := Try.prog) 99 20 _ _ Try.underlying99 rfl W (Try.zeroValue99 W)
theorem no_propose (T : TypeId) (h : T ≠ 101) (v : Value) (W : World) : (Instr.typeAssert (.iface T v) 20 101 true).run Try.prog W = .ok (.tuple #[.agg #[.int .i64 0, .int .i64 0, .string ⟨#[]⟩], .bool false]) W := run_assert_no (P := Try.prog) T 101 20 v _ _ Try.underlying101 rfl h W (Try.zeroValue101 W)
theorem yes_propose (v : Value) (W : World) : (Instr.typeAssert (.iface 101 v) 20 101 true).run Try.prog W = .ok (.tuple #[v, .bool true]) W := run_assert_yes (P := Try.prog) 101 20 v _ Try.underlying101 rfl W
theorem nil_propose (W : World) : (Instr.typeAssert .nilIface 20 101 true).run Try.prog W = .ok (.tuple #[.agg #[.int .i64 0, .int .i64 0, .string ⟨#[]⟩], .bool false]) W := run_assert_nil (P := Try.prog) 101 20 _ _ Try.underlying101 rfl W (Try.zeroValue101 W)
theorem no_ack (T : TypeId) (h : T ≠ 94) (v : Value) (W : World) : (Instr.typeAssert (.iface T v) 20 94 true).run Try.prog W = .ok (.tuple #[.agg #[.bool false, .int .i64 0, .int .i64 0], .bool false]) W := run_assert_no (P := Try.prog) T 94 20 v _ _ Try.underlying94 rfl h W (Try.zeroValue94 W)
theorem yes_ack (v : Value) (W : World) : (Instr.typeAssert (.iface 94 v) 20 94 true).run Try.prog W = .ok (.tuple #[v, .bool true]) W := run_assert_yes (P := Try.prog) 94 20 v _ Try.underlying94 rfl W
theorem nil_ack (W : World) : (Instr.typeAssert .nilIface 20 94 true).run Try.prog W = .ok (.tuple #[.agg #[.bool false, .int .i64 0, .int .i64 0], .bool false]) W := run_assert_nil (P := Try.prog) 94 20 _ _ Try.underlying94 rfl W (Try.zeroValue94 W)
theorem no_ask (T : TypeId) (h : T ≠ 103) (v : Value) (W : World) : (Instr.typeAssert (.iface T v) 20 103 true).run Try.prog W = .ok (.tuple #[.agg #[.int .i64 0, .int .i64 0, .int .i64 0, .bool false, .string ⟨#[]⟩], .bool false]) W := run_assert_no (P := Try.prog) T 103 20 v _ _ Try.underlying103 rfl h W (Try.zeroValue103 W)
theorem yes_ask (v : Value) (W : World) : (Instr.typeAssert (.iface 103 v) 20 103 true).run Try.prog W = .ok (.tuple #[v, .bool true]) W := run_assert_yes (P := Try.prog) 103 20 v _ Try.underlying103 rfl W
theorem nil_ask (W : World) : (Instr.typeAssert .nilIface 20 103 true).run Try.prog W = .ok (.tuple #[.agg #[.int .i64 0, .int .i64 0, .int .i64 0, .bool false, .string ⟨#[]⟩], .bool false]) W := run_assert_nil (P := Try.prog) 103 20 _ _ Try.underlying103 rfl W (Try.zeroValue103 W)
def RightSaid (b k : Bool) (w : World) (e : Ending) (w' : World) : Prop := e = .returned (.tuple #[.bool b, .bool k]) ∧ Below w.heap.size w w'
def ackV (f : Bool) (z : Int × Int) : Value := .agg #[.bool f, .int .i64 z.1, .int .i64 z.2]
def voteV (l : Int) (z : Int × Int) (p r s : Int) : Value := .agg #[.int .i64 l, .int .i64 z.1, .int .i64 z.2, .int .i64 p, .int .i64 r, .int .i64 s]
def infoV (k p o : Int) (z : Int × Int) : Value := .agg #[.int .i64 k, .int .i64 p, .int .i64 o, .int .i64 z.1, .int .i64 z.2]
def askV (n c q : Int) (f : Bool) (b : List UInt8) : Value := .agg #[.int .i64 n, .int .i64 c, .int .i64 q, .bool f, .string (bs b)]
def entV (x : Ent) : Value := .agg #[.int .i64 x.e, .int .i64 x.c, .string (bs x.b)]
set_option maxRecDepth 100000 in
set_option maxHeartbeats 1000000 in
theorem right_ack (f : Bool) (z : Int × Int) (w : World) : Calls Try.prog 53 #[.iface 94 (ackV f z)] w fun e w' => RightSaid (zxB z) true w e w' := by
  have HZ := Lib.hid (fun X => zxRight_any z X)
  generalize zxB z = R at *
  obtain ⟨a, b⟩ := z
  unfold zxidV at HZ
  unfold ackV
  have n_vote := no_vote 94 (by decide) (.agg #[.bool f, .int .i64 a, .int .i64 b])
  have n_info := no_info 94 (by decide) (.agg #[.bool f, .int .i64 a, .int .i64 b])
  have n_sync := no_sync 94 (by decide) (.agg #[.bool f, .int .i64 a, .int .i64 b])
  have n_propose := no_propose 94 (by decide) (.agg #[.bool f, .int .i64 a, .int .i64 b])
  have y1 := yes_ack (.agg #[.bool f, .int .i64 a, .int .i64 b])
  go_enter Try.func53, Try.ntmps53
  go_wp2_with (fail)
  refine (HZ.out _).mono ?_
  rintro e w1 ⟨rfl, hb⟩
  have HB := Lib.hid ((alloc_below w _).trans (hb.mono (by simp)))
  go_wp2
  go_ret2
  exact ⟨rfl, HB.out⟩
set_option maxRecDepth 100000 in
set_option maxHeartbeats 1000000 in
theorem right_propose (x : Ent) (w : World) : Calls Try.prog 53 #[.iface 101 (entV x)] w fun e w' => RightSaid (zxB (x.e, x.c)) true w e w' := by
  have HZ := Lib.hid (fun X => zxRight_any (x.e, x.c) X)
  generalize zxB (x.e, x.c) = R at *
  unfold zxidV at HZ
  unfold entV
  have n_vote := no_vote 101 (by decide) (.agg #[.int .i64 x.e, .int .i64 x.c, .string (bs x.b)])
  have n_info := no_info 101 (by decide) (.agg #[.int .i64 x.e, .int .i64 x.c, .string (bs x.b)])
  have n_sync := no_sync 101 (by decide) (.agg #[.int .i64 x.e, .int .i64 x.c, .string (bs x.b)])
  have y1 := yes_propose (.agg #[.int .i64 x.e, .int .i64 x.c, .string (bs x.b)])
  go_enter Try.func53, Try.ntmps53
  go_wp2_with (fail)
  refine (HZ.out _).mono ?_
  rintro e w1 ⟨rfl, hb⟩
  have HB := Lib.hid ((alloc_below w _).trans (hb.mono (by simp)))
  go_wp2
  go_ret2
  exact ⟨rfl, HB.out⟩
set_option maxRecDepth 100000 in
set_option maxHeartbeats 1000000 in
theorem right_int (n : Int) (w : World) : Calls Try.prog 53 #[.iface 3 (.int .i64 n)] w fun e w' => RightSaid false false w e w' := by
  have n_vote := no_vote 3 (by decide) (.int .i64 n)
  have n_info := no_info 3 (by decide) (.int .i64 n)
  have n_sync := no_sync 3 (by decide) (.int .i64 n)
  have n_propose := no_propose 3 (by decide) (.int .i64 n)
  have n_ack := no_ack 3 (by decide) (.int .i64 n)
  have n_ask := no_ask 3 (by decide) (.int .i64 n)
  go_enter Try.func53, Try.ntmps53
  go_wp2
  go_ret2
  exact ⟨rfl, Below.refl _ _⟩
set_option maxRecDepth 100000 in
set_option maxHeartbeats 1000000 in
theorem right_nil (w : World) : Calls Try.prog 53 #[.nilIface] w fun e w' => RightSaid false false w e w' := by
  have n_vote := nil_vote
  have n_info := nil_info
  have n_sync := nil_sync
  have n_propose := nil_propose
  have n_ack := nil_ack
  have n_ask := nil_ask
  go_enter Try.func53, Try.ntmps53
  go_wp2
  go_ret2
  exact ⟨rfl, Below.refl _ _⟩
theorem ints_new (W : World) (g : Nat) (hg : g = W.heap.size) (l : List Int) (o : Obj) (ho : o = Obj.cells (l.map fun n => Value.int .i64 n).toArray 3 (0, 0)) : IntsAt g l (W.alloc o) := by
  subst hg ho
  exact heap_alloc_new W _
set_option maxRecDepth 100000 in
set_option maxHeartbeats 1000000 in
theorem right_ask (n c q : Int) (f : Bool) (b : List UInt8) (w : World) : Calls Try.prog 53 #[.iface 103 (askV n c q f b)] w fun e w' => RightSaid (withinB [n, c, q]) true w e w' := by
  have HW := Lib.hid (fun g X hX => within_any [n, c, q] g 3 rfl (by omega) X hX)
  have HX : Hid (∀ o, IntsAt (w.heap.size + 1) [n, c, q] ((w.alloc o).alloc (.cells #[.int .i64 n, .int .i64 c, .int .i64 q] 3))) := fun o => ints_new _ _ (by simp) _ _ rfl
  have HB : Hid (∀ o1 o2, Below w.heap.size w ((w.alloc o1).alloc o2)) := fun o1 o2 => ((Below.refl _ w).alloc (Nat.le_refl _) _).alloc (by simp) _
  generalize withinB [n, c, q] = R at *
  unfold askV
  have n_vote := no_vote 103 (by decide) (.agg #[.int .i64 n, .int .i64 c, .int .i64 q, .bool f, .string (bs b)])
  have n_info := no_info 103 (by decide) (.agg #[.int .i64 n, .int .i64 c, .int .i64 q, .bool f, .string (bs b)])
  have n_sync := no_sync 103 (by decide) (.agg #[.int .i64 n, .int .i64 c, .int .i64 q, .bool f, .string (bs b)])
  have n_propose := no_propose 103 (by decide) (.agg #[.int .i64 n, .int .i64 c, .int .i64 q, .bool f, .string (bs b)])
  have n_ack := no_ack 103 (by decide) (.agg #[.int .i64 n, .int .i64 c, .int .i64 q, .bool f, .string (bs b)])
  have y1 := yes_ask (.agg #[.int .i64 n, .int .i64 c, .int .i64 q, .bool f, .string (bs b)])
  go_enter Try.func53, Try.ntmps53
  go_wp2_with (fail)
  refine (HW.out _ _ (HX.out _)).mono ?_
  rintro e w1 ⟨rfl, rfl⟩
  go_wp2
  go_ret2
  exact ⟨rfl, HB.out _ _⟩
def voteB (l : Int) (z : Int × Int) (p r s : Int) : Bool := decide (1 ≤ s) && (decide (s ≤ 3) && (zxB z && withinB [l, p, r]))
def infoB (k p o : Int) (z : Int × Int) : Bool := decide (1 ≤ k) && (decide (k ≤ 7) && (zxB z && withinB [p, o]))
set_option maxRecDepth 100000 in
set_option maxHeartbeats 1000000 in
theorem right_vote (l : Int) (z : Int × Int) (p r s : Int) (w : World) : Calls Try.prog 53 #[.iface 65 (voteV l z p r s)] w fun e w' => RightSaid (voteB l z p r s) true w e w' := by
  have HV : Hid (voteB l z p r s = (decide (1 ≤ s) && (decide (s ≤ 3) && (zxB z && withinB [l, p, r])))) := rfl
  generalize voteB l z p r s = V at *
  have HZ := Lib.hid (fun X => zxRight_any z X)
  have HW := Lib.hid (fun g X hX => within_any [l, p, r] g 3 rfl (by omega) X hX)
  have HX := Lib.hid (fun (X : World) g hg => ints_new X g hg [l, p, r] _ rfl)
  generalize zxB z = Z at *
  generalize withinB [l, p, r] = B at *
  obtain ⟨z1, z2⟩ := z
  unfold zxidV at HZ
  simp only [List.map_cons, List.map_nil] at HX
  unfold voteV
  have y1 := yes_vote (.agg #[.int .i64 l, .int .i64 z1, .int .i64 z2, .int .i64 p, .int .i64 r, .int .i64 s])
  by_cases h1 : 1 ≤ s
  · have t1 : decide (1 ≤ s) = true := decide_eq_true h1
    by_cases h2 : s ≤ 3
    · have t2 : decide (s ≤ 3) = true := decide_eq_true h2
      rw [t1, t2, Bool.true_and, Bool.true_and] at HV
      cases Z
      · as_aux_lemma =>
        go_enter Try.func53, Try.ntmps53
        go_wp2_with (fail)
        refine (HZ.out _).mono ?_
        rintro e w1 ⟨rfl, hb⟩
        have HB := Lib.hid ((alloc_below w _).trans (hb.mono (by simp)))
        go_wp2
        go_ret2
        exact ⟨by rw [HV.out]; rfl, HB.out⟩
      · as_aux_lemma =>
        go_enter Try.func53, Try.ntmps53
        go_wp2_with (fail)
        refine (HZ.out _).mono ?_
        rintro e w1 ⟨rfl, hb⟩
        have hbw := (alloc_below w _).trans (hb.mono (by simp))
        have hq := Grew.at_ hb (heap_alloc_new w _)
        have c0 : w1.cell? ⟨w.heap.size, 0, none⟩ = some (.int .i64 l) := by rw [Lib.cell_of_heap hq]; rfl
        have c3 : w1.cell? ⟨w.heap.size, 3, none⟩ = some (.int .i64 p) := by rw [Lib.cell_of_heap hq]; rfl
        have c4 : w1.cell? ⟨w.heap.size, 4, none⟩ = some (.int .i64 r) := by rw [Lib.cell_of_heap hq]; rfl
        clear hq hb
        have Hbw := Lib.hid hbw
        clear hbw
        go_wp2_with (fail)
        refine (HW.out _ _ (HX.out _ _ rfl)).mono ?_
        rintro e w2 ⟨rfl, rfl⟩
        go_wp2
        go_ret2
        exact ⟨by rw [HV.out]; rfl, Hbw.out.trans ((alloc_below w1 _).mono Hbw.out.size)⟩
    · as_aux_lemma =>
      have t2 : decide (s ≤ 3) = false := decide_eq_false h2
      rw [t1, t2, Bool.true_and, Bool.false_and] at HV
      go_enter Try.func53, Try.ntmps53
      go_wp2
      go_ret2
      exact ⟨by rw [HV.out]; rfl, alloc_below _ _⟩
  · as_aux_lemma =>
    have t1 : decide (1 ≤ s) = false := decide_eq_false h1
    rw [t1, Bool.false_and] at HV
    go_enter Try.func53, Try.ntmps53
    go_wp2
    go_ret2
    exact ⟨by rw [HV.out]; rfl, alloc_below _ _⟩
set_option maxRecDepth 100000 in
set_option maxHeartbeats 1000000 in
theorem right_info (k p o : Int) (z : Int × Int) (w : World) : Calls Try.prog 53 #[.iface 97 (infoV k p o z)] w fun e w' => RightSaid (infoB k p o z) true w e w' := by
  have HV : Hid (infoB k p o z = (decide (1 ≤ k) && (decide (k ≤ 7) && (zxB z && withinB [p, o])))) := rfl
  generalize infoB k p o z = V at *
  have HZ := Lib.hid (fun X => zxRight_any z X)
  have HW := Lib.hid (fun g X hX => within_any [p, o] g 2 rfl (by omega) X hX)
  have HX := Lib.hid (fun (X : World) g hg => ints_new X g hg [p, o] _ rfl)
  generalize zxB z = Z at *
  generalize withinB [p, o] = B at *
  obtain ⟨z1, z2⟩ := z
  unfold zxidV at HZ
  simp only [List.map_cons, List.map_nil] at HX
  unfold infoV
  have n_vote := no_vote 97 (by decide) (.agg #[.int .i64 k, .int .i64 p, .int .i64 o, .int .i64 z1, .int .i64 z2])
  have y1 := yes_info (.agg #[.int .i64 k, .int .i64 p, .int .i64 o, .int .i64 z1, .int .i64 z2])
  by_cases h1 : 1 ≤ k
  · have t1 : decide (1 ≤ k) = true := decide_eq_true h1
    by_cases h2 : k ≤ 7
    · have t2 : decide (k ≤ 7) = true := decide_eq_true h2
      rw [t1, t2, Bool.true_and, Bool.true_and] at HV
      cases Z
      · as_aux_lemma =>
        go_enter Try.func53, Try.ntmps53
        go_wp2_with (fail)
        refine (HZ.out _).mono ?_
        rintro e w1 ⟨rfl, hb⟩
        have HB := Lib.hid ((alloc_below w _).trans (hb.mono (by simp)))
        go_wp2
        go_ret2
        exact ⟨by rw [HV.out]; rfl, HB.out⟩
      · as_aux_lemma =>
        go_enter Try.func53, Try.ntmps53
        go_wp2_with (fail)
        refine (HZ.out _).mono ?_
        rintro e w1 ⟨rfl, hb⟩
        have hbw := (alloc_below w _).trans (hb.mono (by simp))
        have hq := Grew.at_ hb (heap_alloc_new w _)
        have c1 : w1.cell? ⟨w.heap.size, 1, none⟩ = some (.int .i64 p) := by rw [Lib.cell_of_heap hq]; rfl
        have c2 : w1.cell? ⟨w.heap.size, 2, none⟩ = some (.int .i64 o) := by rw [Lib.cell_of_heap hq]; rfl
        clear hq hb
        have Hbw := Lib.hid hbw
        clear hbw
        go_wp2_with (fail)
        refine (HW.out _ _ (HX.out _ _ rfl)).mono ?_
        rintro e w2 ⟨rfl, rfl⟩
        go_wp2
        go_ret2
        exact ⟨by rw [HV.out]; rfl, Hbw.out.trans ((alloc_below w1 _).mono Hbw.out.size)⟩
    · as_aux_lemma =>
      have t2 : decide (k ≤ 7) = false := decide_eq_false h2
      rw [t1, t2, Bool.true_and, Bool.false_and] at HV
      go_enter Try.func53, Try.ntmps53
      go_wp2
      go_ret2
      exact ⟨by rw [HV.out]; rfl, alloc_below _ _⟩
  · as_aux_lemma =>
    have t1 : decide (1 ≤ k) = false := decide_eq_false h1
    rw [t1, Bool.false_and] at HV
    go_enter Try.func53, Try.ntmps53
    go_wp2
    go_ret2
    exact ⟨by rw [HV.out]; rfl, alloc_below _ _⟩
end Go.Proofs.Ytlbacddgjagcbaa
