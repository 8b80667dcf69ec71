/- Are two things the same? Conditions: as each theorem says. -/
import Derived.Test.YtlcblkmmkphpmaaTalI
namespace Go.Proofs.Ytlcblkmmkphpmaa
open Go.RowKit
set_option maxRecDepth 100000 in
theorem run_neq_kv (a b : Kvr) (W : World) : (binOp .neq 101 (.agg (kvV a).toArray) (.agg (kvV b).toArray)).run Try.prog W = .ok (.bool (!decide (a = b))) W := by
  unfold kvV
  go_simp
  obtain ⟨a0, a1, a2, a3, a4, a5⟩ := a
  obtain ⟨b0, b1, b2, b3, b4, b5⟩ := b
  simp only [bs_toList, Kvr.mk.injEq]
  repeat' (split <;> try simp_all)
set_option maxRecDepth 100000 in
theorem run_neq_op (a b : Opr) (W : World) : (binOp .neq 89 (.agg (opV a).toArray) (.agg (opV b).toArray)).run Try.prog W = .ok (.bool (!decide (a = b))) W := by
  unfold opV
  go_simp
  obtain ⟨a0, ⟨a1, a2, a3, a4, a5, a6, a7⟩, a8, a9⟩ := a
  obtain ⟨b0, ⟨b1, b2, b3, b4, b5, b6, b7⟩, b8, b9⟩ := b
  simp only [bs_toList, Opr.mk.injEq, Rg.mk.injEq]
  repeat' (split <;> try simp_all)
set_option maxRecDepth 100000 in
theorem run_neq_cp (a b : Cp) (W : World) : (binOp .neq 75 (.agg (cpV a).toArray) (.agg (cpV b).toArray)).run Try.prog W = .ok (.bool (!decide (a = b))) W := by
  unfold cpV
  go_simp
  obtain ⟨a0, a1, a2, a3, a4⟩ := a
  obtain ⟨b0, b1, b2, b3, b4⟩ := b
  simp only [bs_toList, Cp.mk.injEq]
  repeat' (split <;> try simp_all)
set_option maxRecDepth 100000 in
theorem run_eql_rg (a b : Rg) (W : World) : (binOp .eql 28 (.agg (rgV a).toArray) (.agg (rgV b).toArray)).run Try.prog W = .ok (.bool (decide (a = b))) W := by
  unfold rgV
  go_simp
  obtain ⟨a1, a2, a3, a4, a5, a6, a7⟩ := a
  obtain ⟨b1, b2, b3, b4, b5, b6, b7⟩ := b
  simp only [bs_toList, Rg.mk.injEq]
  repeat' (split <;> try simp_all)
theorem below_drewN {B : Nat} {a w : World} (h : Below B a w) (n : Nat) : Below B a (w.drewN n) := ⟨h.os, h.tape, h.output, h.size, h.block⟩
theorem same_len {α : Type} [DecidableEq α] {A B : List α} (h : A.length ≠ B.length) : decide (A = B) = false := decide_eq_false (fun e => h (by rw [e]))
theorem same_take {α : Type} {A B : List α} {i : Nat} (ha : i < A.length) (hb : i < B.length) (h : A.take i = B.take i) (he : A[i] = B[i]) : A.take (i + 1) = B.take (i + 1) := by
  rw [List.take_succ_eq_append_getElem ha, List.take_succ_eq_append_getElem hb, h, he]
theorem same_stop {α : Type} [DecidableEq α] {A B : List α} {i : Nat} (ha : i < A.length) (hb : i < B.length) (he : A[i] ≠ B[i]) : decide (A = B) = false := decide_eq_false (fun e => he (by subst e; rfl))
theorem same_end {α : Type} [DecidableEq α] {A B : List α} {i : Nat} (hl : A.length = B.length) (hi : ¬ i < A.length) (h : A.take i = B.take i) : decide (A = B) = true := decide_eq_true (by rw [List.take_of_length_le (by omega), List.take_of_length_le (by omega)] at h; exact h)
end Go.Proofs.Ytlcblkmmkphpmaa
