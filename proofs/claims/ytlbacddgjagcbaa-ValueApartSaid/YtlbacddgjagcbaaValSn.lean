/- The walk of Same at any two messages. Conditions: as each theorem says. -/
import Derived.Test.YtlbacddgjagcbaaValW
namespace Go.Proofs.Ytlbacddgjagcbaa
open Go.RowKit

set_option maxRecDepth 100000 in
set_option maxHeartbeats 16000000 in
theorem same_no_ty (a b : Option Addr) (ca cb : Nat) (ty1 ty2 : Int) (ld1 ld2 : Int) (ap1 aq1 ap2 aq2 : Int) (ep1 ep2 : Int) (own1 own2 : Int) (fp1 fq1 fp2 fq2 : Int) (rnd1 rnd2 : Int) (st1 st2 : Int) (kd1 kd2 : Int) (body1 body2 : List UInt8) (ents1 ents2 : List Ent) (flag1 flag2 : Bool) (node1 node2 : Int) (cli1 cli2 : Int) (seq1 seq2 : Int) (hd : ty1 ≠ ty2) (w : World) (hA : EntsIn w a ca ents1) (hB : EntsIn w b cb ents2) : Calls Try.prog 40 #[.agg #[.int .i64 ty1, .int .i64 ld1, .int .i64 ap1, .int .i64 aq1, .int .i64 ep1, .int .i64 own1, .int .i64 fp1, .int .i64 fq1, .int .i64 rnd1, .int .i64 st1, .int .i64 kd1, .string (bs body1), .slice a ents1.length ca, .bool flag1, .int .i64 node1, .int .i64 cli1, .int .i64 seq1], .agg #[.int .i64 ty2, .int .i64 ld2, .int .i64 ap2, .int .i64 aq2, .int .i64 ep2, .int .i64 own2, .int .i64 fp2, .int .i64 fq2, .int .i64 rnd2, .int .i64 st2, .int .i64 kd2, .string (bs body2), .slice b ents2.length cb, .bool flag2, .int .i64 node2, .int .i64 cli2, .int .i64 seq2]] w fun e w' => e = .returned (.bool false) ∧ Below w.heap.size w w' := by
  have hla := Nat.le_trans hA.1 hA.2.1
  have hlb := Nat.le_trans hB.1 hB.2.1
  unfold maxLen at hla hlb
  have hb2 : Below w.heap.size w ((w.alloc (.cells #[.int .i64 ty1, .int .i64 ld1, .int .i64 ap1, .int .i64 aq1, .int .i64 ep1, .int .i64 own1, .int .i64 fp1, .int .i64 fq1, .int .i64 rnd1, .int .i64 st1, .int .i64 kd1, .string (bs body1), .slice a ents1.length ca, .bool flag1, .int .i64 node1, .int .i64 cli1, .int .i64 seq1] 51)).alloc (.cells #[.int .i64 ty2, .int .i64 ld2, .int .i64 ap2, .int .i64 aq2, .int .i64 ep2, .int .i64 own2, .int .i64 fp2, .int .i64 fq2, .int .i64 rnd2, .int .i64 st2, .int .i64 kd2, .string (bs body2), .slice b ents2.length cb, .bool flag2, .int .i64 node2, .int .i64 cli2, .int .i64 seq2] 51)) := ((Below.refl _ w).alloc (Nat.le_refl _) _).alloc (by simp) _
  have t0 : (ty1 == ty2) = false := beq_eq_false_iff_ne.2 hd
  have HB := Lib.hid hb2
  clear hA hB hb2 hd
  go_enter Try.func40, Try.ntmps40
  go_wp2
  go_ret
  exact ⟨rfl, HB.out⟩
set_option maxRecDepth 100000 in
set_option maxHeartbeats 16000000 in
theorem same_no_ld (a b : Option Addr) (ca cb : Nat) (ty : Int) (ld1 ld2 : Int) (ap1 aq1 ap2 aq2 : Int) (ep1 ep2 : Int) (own1 own2 : Int) (fp1 fq1 fp2 fq2 : Int) (rnd1 rnd2 : Int) (st1 st2 : Int) (kd1 kd2 : Int) (body1 body2 : List UInt8) (ents1 ents2 : List Ent) (flag1 flag2 : Bool) (node1 node2 : Int) (cli1 cli2 : Int) (seq1 seq2 : Int) (hd : ld1 ≠ ld2) (w : World) (hA : EntsIn w a ca ents1) (hB : EntsIn w b cb ents2) : Calls Try.prog 40 #[.agg #[.int .i64 ty, .int .i64 ld1, .int .i64 ap1, .int .i64 aq1, .int .i64 ep1, .int .i64 own1, .int .i64 fp1, .int .i64 fq1, .int .i64 rnd1, .int .i64 st1, .int .i64 kd1, .string (bs body1), .slice a ents1.length ca, .bool flag1, .int .i64 node1, .int .i64 cli1, .int .i64 seq1], .agg #[.int .i64 ty, .int .i64 ld2, .int .i64 ap2, .int .i64 aq2, .int .i64 ep2, .int .i64 own2, .int .i64 fp2, .int .i64 fq2, .int .i64 rnd2, .int .i64 st2, .int .i64 kd2, .string (bs body2), .slice b ents2.length cb, .bool flag2, .int .i64 node2, .int .i64 cli2, .int .i64 seq2]] w fun e w' => e = .returned (.bool false) ∧ Below w.heap.size w w' := by
  have hla := Nat.le_trans hA.1 hA.2.1
  have hlb := Nat.le_trans hB.1 hB.2.1
  unfold maxLen at hla hlb
  have hb2 : Below w.heap.size w ((w.alloc (.cells #[.int .i64 ty, .int .i64 ld1, .int .i64 ap1, .int .i64 aq1, .int .i64 ep1, .int .i64 own1, .int .i64 fp1, .int .i64 fq1, .int .i64 rnd1, .int .i64 st1, .int .i64 kd1, .string (bs body1), .slice a ents1.length ca, .bool flag1, .int .i64 node1, .int .i64 cli1, .int .i64 seq1] 51)).alloc (.cells #[.int .i64 ty, .int .i64 ld2, .int .i64 ap2, .int .i64 aq2, .int .i64 ep2, .int .i64 own2, .int .i64 fp2, .int .i64 fq2, .int .i64 rnd2, .int .i64 st2, .int .i64 kd2, .string (bs body2), .slice b ents2.length cb, .bool flag2, .int .i64 node2, .int .i64 cli2, .int .i64 seq2] 51)) := ((Below.refl _ w).alloc (Nat.le_refl _) _).alloc (by simp) _
  have t0 : (ld1 == ld2) = false := beq_eq_false_iff_ne.2 hd
  have HB := Lib.hid hb2
  clear hA hB hb2 hd
  go_enter Try.func40, Try.ntmps40
  go_wp2
  go_ret
  exact ⟨rfl, HB.out⟩
set_option maxRecDepth 100000 in
set_option maxHeartbeats 16000000 in
theorem same_no_a1 (a b : Option Addr) (ca cb : Nat) (ty : Int) (ld : Int) (ap1 aq1 ap2 aq2 : Int) (ep1 ep2 : Int) (own1 own2 : Int) (fp1 fq1 fp2 fq2 : Int) (rnd1 rnd2 : Int) (st1 st2 : Int) (kd1 kd2 : Int) (body1 body2 : List UInt8) (ents1 ents2 : List Ent) (flag1 flag2 : Bool) (node1 node2 : Int) (cli1 cli2 : Int) (seq1 seq2 : Int) (hd : ap1 ≠ ap2) (w : World) (hA : EntsIn w a ca ents1) (hB : EntsIn w b cb ents2) : Calls Try.prog 40 #[.agg #[.int .i64 ty, .int .i64 ld, .int .i64 ap1, .int .i64 aq1, .int .i64 ep1, .int .i64 own1, .int .i64 fp1, .int .i64 fq1, .int .i64 rnd1, .int .i64 st1, .int .i64 kd1, .string (bs body1), .slice a ents1.length ca, .bool flag1, .int .i64 node1, .int .i64 cli1, .int .i64 seq1], .agg #[.int .i64 ty, .int .i64 ld, .int .i64 ap2, .int .i64 aq2, .int .i64 ep2, .int .i64 own2, .int .i64 fp2, .int .i64 fq2, .int .i64 rnd2, .int .i64 st2, .int .i64 kd2, .string (bs body2), .slice b ents2.length cb, .bool flag2, .int .i64 node2, .int .i64 cli2, .int .i64 seq2]] w fun e w' => e = .returned (.bool false) ∧ Below w.heap.size w w' := by
  have hla := Nat.le_trans hA.1 hA.2.1
  have hlb := Nat.le_trans hB.1 hB.2.1
  unfold maxLen at hla hlb
  have hb2 : Below w.heap.size w ((w.alloc (.cells #[.int .i64 ty, .int .i64 ld, .int .i64 ap1, .int .i64 aq1, .int .i64 ep1, .int .i64 own1, .int .i64 fp1, .int .i64 fq1, .int .i64 rnd1, .int .i64 st1, .int .i64 kd1, .string (bs body1), .slice a ents1.length ca, .bool flag1, .int .i64 node1, .int .i64 cli1, .int .i64 seq1] 51)).alloc (.cells #[.int .i64 ty, .int .i64 ld, .int .i64 ap2, .int .i64 aq2, .int .i64 ep2, .int .i64 own2, .int .i64 fp2, .int .i64 fq2, .int .i64 rnd2, .int .i64 st2, .int .i64 kd2, .string (bs body2), .slice b ents2.length cb, .bool flag2, .int .i64 node2, .int .i64 cli2, .int .i64 seq2] 51)) := ((Below.refl _ w).alloc (Nat.le_refl _) _).alloc (by simp) _
  have t0 : (ap1 == ap2) = false := beq_eq_false_iff_ne.2 hd
  have HB := Lib.hid hb2
  clear hA hB hb2 hd
  go_enter Try.func40, Try.ntmps40
  go_wp2
  go_ret
  exact ⟨rfl, HB.out⟩
set_option maxRecDepth 100000 in
set_option maxHeartbeats 16000000 in
theorem same_no_a2 (a b : Option Addr) (ca cb : Nat) (ty : Int) (ld : Int) (ap aq1 aq2 : Int) (ep1 ep2 : Int) (own1 own2 : Int) (fp1 fq1 fp2 fq2 : Int) (rnd1 rnd2 : Int) (st1 st2 : Int) (kd1 kd2 : Int) (body1 body2 : List UInt8) (ents1 ents2 : List Ent) (flag1 flag2 : Bool) (node1 node2 : Int) (cli1 cli2 : Int) (seq1 seq2 : Int) (hd : aq1 ≠ aq2) (w : World) (hA : EntsIn w a ca ents1) (hB : EntsIn w b cb ents2) : Calls Try.prog 40 #[.agg #[.int .i64 ty, .int .i64 ld, .int .i64 ap, .int .i64 aq1, .int .i64 ep1, .int .i64 own1, .int .i64 fp1, .int .i64 fq1, .int .i64 rnd1, .int .i64 st1, .int .i64 kd1, .string (bs body1), .slice a ents1.length ca, .bool flag1, .int .i64 node1, .int .i64 cli1, .int .i64 seq1], .agg #[.int .i64 ty, .int .i64 ld, .int .i64 ap, .int .i64 aq2, .int .i64 ep2, .int .i64 own2, .int .i64 fp2, .int .i64 fq2, .int .i64 rnd2, .int .i64 st2, .int .i64 kd2, .string (bs body2), .slice b ents2.length cb, .bool flag2, .int .i64 node2, .int .i64 cli2, .int .i64 seq2]] w fun e w' => e = .returned (.bool false) ∧ Below w.heap.size w w' := by
  have hla := Nat.le_trans hA.1 hA.2.1
  have hlb := Nat.le_trans hB.1 hB.2.1
  unfold maxLen at hla hlb
  have hb2 : Below w.heap.size w ((w.alloc (.cells #[.int .i64 ty, .int .i64 ld, .int .i64 ap, .int .i64 aq1, .int .i64 ep1, .int .i64 own1, .int .i64 fp1, .int .i64 fq1, .int .i64 rnd1, .int .i64 st1, .int .i64 kd1, .string (bs body1), .slice a ents1.length ca, .bool flag1, .int .i64 node1, .int .i64 cli1, .int .i64 seq1] 51)).alloc (.cells #[.int .i64 ty, .int .i64 ld, .int .i64 ap, .int .i64 aq2, .int .i64 ep2, .int .i64 own2, .int .i64 fp2, .int .i64 fq2, .int .i64 rnd2, .int .i64 st2, .int .i64 kd2, .string (bs body2), .slice b ents2.length cb, .bool flag2, .int .i64 node2, .int .i64 cli2, .int .i64 seq2] 51)) := ((Below.refl _ w).alloc (Nat.le_refl _) _).alloc (by simp) _
  have t0 : (aq1 == aq2) = false := beq_eq_false_iff_ne.2 hd
  have HB := Lib.hid hb2
  clear hA hB hb2 hd
  go_enter Try.func40, Try.ntmps40
  go_wp2
  go_ret
  exact ⟨rfl, HB.out⟩
set_option maxRecDepth 100000 in
set_option maxHeartbeats 16000000 in
theorem same_no_ep (a b : Option Addr) (ca cb : Nat) (ty : Int) (ld : Int) (ap aq : Int) (ep1 ep2 : Int) (own1 own2 : Int) (fp1 fq1 fp2 fq2 : Int) (rnd1 rnd2 : Int) (st1 st2 : Int) (kd1 kd2 : Int) (body1 body2 : List UInt8) (ents1 ents2 : List Ent) (flag1 flag2 : Bool) (node1 node2 : Int) (cli1 cli2 : Int) (seq1 seq2 : Int) (hd : ep1 ≠ ep2) (w : World) (hA : EntsIn w a ca ents1) (hB : EntsIn w b cb ents2) : Calls Try.prog 40 #[.agg #[.int .i64 ty, .int .i64 ld, .int .i64 ap, .int .i64 aq, .int .i64 ep1, .int .i64 own1, .int .i64 fp1, .int .i64 fq1, .int .i64 rnd1, .int .i64 st1, .int .i64 kd1, .string (bs body1), .slice a ents1.length ca, .bool flag1, .int .i64 node1, .int .i64 cli1, .int .i64 seq1], .agg #[.int .i64 ty, .int .i64 ld, .int .i64 ap, .int .i64 aq, .int .i64 ep2, .int .i64 own2, .int .i64 fp2, .int .i64 fq2, .int .i64 rnd2, .int .i64 st2, .int .i64 kd2, .string (bs body2), .slice b ents2.length cb, .bool flag2, .int .i64 node2, .int .i64 cli2, .int .i64 seq2]] w fun e w' => e = .returned (.bool false) ∧ Below w.heap.size w w' := by
  have hla := Nat.le_trans hA.1 hA.2.1
  have hlb := Nat.le_trans hB.1 hB.2.1
  unfold maxLen at hla hlb
  have hb2 : Below w.heap.size w ((w.alloc (.cells #[.int .i64 ty, .int .i64 ld, .int .i64 ap, .int .i64 aq, .int .i64 ep1, .int .i64 own1, .int .i64 fp1, .int .i64 fq1, .int .i64 rnd1, .int .i64 st1, .int .i64 kd1, .string (bs body1), .slice a ents1.length ca, .bool flag1, .int .i64 node1, .int .i64 cli1, .int .i64 seq1] 51)).alloc (.cells #[.int .i64 ty, .int .i64 ld, .int .i64 ap, .int .i64 aq, .int .i64 ep2, .int .i64 own2, .int .i64 fp2, .int .i64 fq2, .int .i64 rnd2, .int .i64 st2, .int .i64 kd2, .string (bs body2), .slice b ents2.length cb, .bool flag2, .int .i64 node2, .int .i64 cli2, .int .i64 seq2] 51)) := ((Below.refl _ w).alloc (Nat.le_refl _) _).alloc (by simp) _
  have t0 : (ep1 == ep2) = false := beq_eq_false_iff_ne.2 hd
  have HB := Lib.hid hb2
  clear hA hB hb2 hd
  go_enter Try.func40, Try.ntmps40
  go_wp2
  go_ret
  exact ⟨rfl, HB.out⟩
set_option maxRecDepth 100000 in
set_option maxHeartbeats 16000000 in
theorem same_no_own (a b : Option Addr) (ca cb : Nat) (ty : Int) (ld : Int) (ap aq : Int) (ep : Int) (own1 own2 : Int) (fp1 fq1 fp2 fq2 : Int) (rnd1 rnd2 : Int) (st1 st2 : Int) (kd1 kd2 : Int) (body1 body2 : List UInt8) (ents1 ents2 : List Ent) (flag1 flag2 : Bool) (node1 node2 : Int) (cli1 cli2 : Int) (seq1 seq2 : Int) (hd : own1 ≠ own2) (w : World) (hA : EntsIn w a ca ents1) (hB : EntsIn w b cb ents2) : Calls Try.prog 40 #[.agg #[.int .i64 ty, .int .i64 ld, .int .i64 ap, .int .i64 aq, .int .i64 ep, .int .i64 own1, .int .i64 fp1, .int .i64 fq1, .int .i64 rnd1, .int .i64 st1, .int .i64 kd1, .string (bs body1), .slice a ents1.length ca, .bool flag1, .int .i64 node1, .int .i64 cli1, .int .i64 seq1], .agg #[.int .i64 ty, .int .i64 ld, .int .i64 ap, .int .i64 aq, .int .i64 ep, .int .i64 own2, .int .i64 fp2, .int .i64 fq2, .int .i64 rnd2, .int .i64 st2, .int .i64 kd2, .string (bs body2), .slice b ents2.length cb, .bool flag2, .int .i64 node2, .int .i64 cli2, .int .i64 seq2]] w fun e w' => e = .returned (.bool false) ∧ Below w.heap.size w w' := by
  have hla := Nat.le_trans hA.1 hA.2.1
  have hlb := Nat.le_trans hB.1 hB.2.1
  unfold maxLen at hla hlb
  have hb2 : Below w.heap.size w ((w.alloc (.cells #[.int .i64 ty, .int .i64 ld, .int .i64 ap, .int .i64 aq, .int .i64 ep, .int .i64 own1, .int .i64 fp1, .int .i64 fq1, .int .i64 rnd1, .int .i64 st1, .int .i64 kd1, .string (bs body1), .slice a ents1.length ca, .bool flag1, .int .i64 node1, .int .i64 cli1, .int .i64 seq1] 51)).alloc (.cells #[.int .i64 ty, .int .i64 ld, .int .i64 ap, .int .i64 aq, .int .i64 ep, .int .i64 own2, .int .i64 fp2, .int .i64 fq2, .int .i64 rnd2, .int .i64 st2, .int .i64 kd2, .string (bs body2), .slice b ents2.length cb, .bool flag2, .int .i64 node2, .int .i64 cli2, .int .i64 seq2] 51)) := ((Below.refl _ w).alloc (Nat.le_refl _) _).alloc (by simp) _
  have t0 : (own1 == own2) = false := beq_eq_false_iff_ne.2 hd
  have HB := Lib.hid hb2
  clear hA hB hb2 hd
  go_enter Try.func40, Try.ntmps40
  go_wp2
  go_ret
  exact ⟨rfl, HB.out⟩
set_option maxRecDepth 100000 in
set_option maxHeartbeats 16000000 in
theorem same_no_f1 (a b : Option Addr) (ca cb : Nat) (ty : Int) (ld : Int) (ap aq : Int) (ep : Int) (own : Int) (fp1 fq1 fp2 fq2 : Int) (rnd1 rnd2 : Int) (st1 st2 : Int) (kd1 kd2 : Int) (body1 body2 : List UInt8) (ents1 ents2 : List Ent) (flag1 flag2 : Bool) (node1 node2 : Int) (cli1 cli2 : Int) (seq1 seq2 : Int) (hd : fp1 ≠ fp2) (w : World) (hA : EntsIn w a ca ents1) (hB : EntsIn w b cb ents2) : Calls Try.prog 40 #[.agg #[.int .i64 ty, .int .i64 ld, .int .i64 ap, .int .i64 aq, .int .i64 ep, .int .i64 own, .int .i64 fp1, .int .i64 fq1, .int .i64 rnd1, .int .i64 st1, .int .i64 kd1, .string (bs body1), .slice a ents1.length ca, .bool flag1, .int .i64 node1, .int .i64 cli1, .int .i64 seq1], .agg #[.int .i64 ty, .int .i64 ld, .int .i64 ap, .int .i64 aq, .int .i64 ep, .int .i64 own, .int .i64 fp2, .int .i64 fq2, .int .i64 rnd2, .int .i64 st2, .int .i64 kd2, .string (bs body2), .slice b ents2.length cb, .bool flag2, .int .i64 node2, .int .i64 cli2, .int .i64 seq2]] w fun e w' => e = .returned (.bool false) ∧ Below w.heap.size w w' := by
  have hla := Nat.le_trans hA.1 hA.2.1
  have hlb := Nat.le_trans hB.1 hB.2.1
  unfold maxLen at hla hlb
  have hb2 : Below w.heap.size w ((w.alloc (.cells #[.int .i64 ty, .int .i64 ld, .int .i64 ap, .int .i64 aq, .int .i64 ep, .int .i64 own, .int .i64 fp1, .int .i64 fq1, .int .i64 rnd1, .int .i64 st1, .int .i64 kd1, .string (bs body1), .slice a ents1.length ca, .bool flag1, .int .i64 node1, .int .i64 cli1, .int .i64 seq1] 51)).alloc (.cells #[.int .i64 ty, .int .i64 ld, .int .i64 ap, .int .i64 aq, .int .i64 ep, .int .i64 own, .int .i64 fp2, .int .i64 fq2, .int .i64 rnd2, .int .i64 st2, .int .i64 kd2, .string (bs body2), .slice b ents2.length cb, .bool flag2, .int .i64 node2, .int .i64 cli2, .int .i64 seq2] 51)) := ((Below.refl _ w).alloc (Nat.le_refl _) _).alloc (by simp) _
  have t0 : (fp1 == fp2) = false := beq_eq_false_iff_ne.2 hd
  have HB := Lib.hid hb2
  clear hA hB hb2 hd
  go_enter Try.func40, Try.ntmps40
  go_wp2
  go_ret
  exact ⟨rfl, HB.out⟩
set_option maxRecDepth 100000 in
set_option maxHeartbeats 16000000 in
theorem same_no_f2 (a b : Option Addr) (ca cb : Nat) (ty : Int) (ld : Int) (ap aq : Int) (ep : Int) (own : Int) (fp fq1 fq2 : Int) (rnd1 rnd2 : Int) (st1 st2 : Int) (kd1 kd2 : Int) (body1 body2 : List UInt8) (ents1 ents2 : List Ent) (flag1 flag2 : Bool) (node1 node2 : Int) (cli1 cli2 : Int) (seq1 seq2 : Int) (hd : fq1 ≠ fq2) (w : World) (hA : EntsIn w a ca ents1) (hB : EntsIn w b cb ents2) : Calls Try.prog 40 #[.agg #[.int .i64 ty, .int .i64 ld, .int .i64 ap, .int .i64 aq, .int .i64 ep, .int .i64 own, .int .i64 fp, .int .i64 fq1, .int .i64 rnd1, .int .i64 st1, .int .i64 kd1, .string (bs body1), .slice a ents1.length ca, .bool flag1, .int .i64 node1, .int .i64 cli1, .int .i64 seq1], .agg #[.int .i64 ty, .int .i64 ld, .int .i64 ap, .int .i64 aq, .int .i64 ep, .int .i64 own, .int .i64 fp, .int .i64 fq2, .int .i64 rnd2, .int .i64 st2, .int .i64 kd2, .string (bs body2), .slice b ents2.length cb, .bool flag2, .int .i64 node2, .int .i64 cli2, .int .i64 seq2]] w fun e w' => e = .returned (.bool false) ∧ Below w.heap.size w w' := by
  have hla := Nat.le_trans hA.1 hA.2.1
  have hlb := Nat.le_trans hB.1 hB.2.1
  unfold maxLen at hla hlb
  have hb2 : Below w.heap.size w ((w.alloc (.cells #[.int .i64 ty, .int .i64 ld, .int .i64 ap, .int .i64 aq, .int .i64 ep, .int .i64 own, .int .i64 fp, .int .i64 fq1, .int .i64 rnd1, .int .i64 st1, .int .i64 kd1, .string (bs body1), .slice a ents1.length ca, .bool flag1, .int .i64 node1, .int .i64 cli1, .int .i64 seq1] 51)).alloc (.cells #[.int .i64 ty, .int .i64 ld, .int .i64 ap, .int .i64 aq, .int .i64 ep, .int .i64 own, .int .i64 fp, .int .i64 fq2, .int .i64 rnd2, .int .i64 st2, .int .i64 kd2, .string (bs body2), .slice b ents2.length cb, .bool flag2, .int .i64 node2, .int .i64 cli2, .int .i64 seq2] 51)) := ((Below.refl _ w).alloc (Nat.le_refl _) _).alloc (by simp) _
  have t0 : (fq1 == fq2) = false := beq_eq_false_iff_ne.2 hd
  have HB := Lib.hid hb2
  clear hA hB hb2 hd
  go_enter Try.func40, Try.ntmps40
  go_wp2
  go_ret
  exact ⟨rfl, HB.out⟩
set_option maxRecDepth 100000 in
set_option maxHeartbeats 16000000 in
theorem same_no_rnd (a b : Option Addr) (ca cb : Nat) (ty : Int) (ld : Int) (ap aq : Int) (ep : Int) (own : Int) (fp fq : Int) (rnd1 rnd2 : Int) (st1 st2 : Int) (kd1 kd2 : Int) (body1 body2 : List UInt8) (ents1 ents2 : List Ent) (flag1 flag2 : Bool) (node1 node2 : Int) (cli1 cli2 : Int) (seq1 seq2 : Int) (hd : rnd1 ≠ rnd2) (w : World) (hA : EntsIn w a ca ents1) (hB : EntsIn w b cb ents2) : Calls Try.prog 40 #[.agg #[.int .i64 ty, .int .i64 ld, .int .i64 ap, .int .i64 aq, .int .i64 ep, .int .i64 own, .int .i64 fp, .int .i64 fq, .int .i64 rnd1, .int .i64 st1, .int .i64 kd1, .string (bs body1), .slice a ents1.length ca, .bool flag1, .int .i64 node1, .int .i64 cli1, .int .i64 seq1], .agg #[.int .i64 ty, .int .i64 ld, .int .i64 ap, .int .i64 aq, .int .i64 ep, .int .i64 own, .int .i64 fp, .int .i64 fq, .int .i64 rnd2, .int .i64 st2, .int .i64 kd2, .string (bs body2), .slice b ents2.length cb, .bool flag2, .int .i64 node2, .int .i64 cli2, .int .i64 seq2]] w fun e w' => e = .returned (.bool false) ∧ Below w.heap.size w w' := by
  have hla := Nat.le_trans hA.1 hA.2.1
  have hlb := Nat.le_trans hB.1 hB.2.1
  unfold maxLen at hla hlb
  have hb2 : Below w.heap.size w ((w.alloc (.cells #[.int .i64 ty, .int .i64 ld, .int .i64 ap, .int .i64 aq, .int .i64 ep, .int .i64 own, .int .i64 fp, .int .i64 fq, .int .i64 rnd1, .int .i64 st1, .int .i64 kd1, .string (bs body1), .slice a ents1.length ca, .bool flag1, .int .i64 node1, .int .i64 cli1, .int .i64 seq1] 51)).alloc (.cells #[.int .i64 ty, .int .i64 ld, .int .i64 ap, .int .i64 aq, .int .i64 ep, .int .i64 own, .int .i64 fp, .int .i64 fq, .int .i64 rnd2, .int .i64 st2, .int .i64 kd2, .string (bs body2), .slice b ents2.length cb, .bool flag2, .int .i64 node2, .int .i64 cli2, .int .i64 seq2] 51)) := ((Below.refl _ w).alloc (Nat.le_refl _) _).alloc (by simp) _
  have t0 : (rnd1 == rnd2) = false := beq_eq_false_iff_ne.2 hd
  have HB := Lib.hid hb2
  clear hA hB hb2 hd
  go_enter Try.func40, Try.ntmps40
  go_wp2
  go_ret
  exact ⟨rfl, HB.out⟩
set_option maxRecDepth 100000 in
set_option maxHeartbeats 16000000 in
theorem same_no_st (a b : Option Addr) (ca cb : Nat) (ty : Int) (ld : Int) (ap aq : Int) (ep : Int) (own : Int) (fp fq : Int) (rnd : Int) (st1 st2 : Int) (kd1 kd2 : Int) (body1 body2 : List UInt8) (ents1 ents2 : List Ent) (flag1 flag2 : Bool) (node1 node2 : Int) (cli1 cli2 : Int) (seq1 seq2 : Int) (hd : st1 ≠ st2) (w : World) (hA : EntsIn w a ca ents1) (hB : EntsIn w b cb ents2) : Calls Try.prog 40 #[.agg #[.int .i64 ty, .int .i64 ld, .int .i64 ap, .int .i64 aq, .int .i64 ep, .int .i64 own, .int .i64 fp, .int .i64 fq, .int .i64 rnd, .int .i64 st1, .int .i64 kd1, .string (bs body1), .slice a ents1.length ca, .bool flag1, .int .i64 node1, .int .i64 cli1, .int .i64 seq1], .agg #[.int .i64 ty, .int .i64 ld, .int .i64 ap, .int .i64 aq, .int .i64 ep, .int .i64 own, .int .i64 fp, .int .i64 fq, .int .i64 rnd, .int .i64 st2, .int .i64 kd2, .string (bs body2), .slice b ents2.length cb, .bool flag2, .int .i64 node2, .int .i64 cli2, .int .i64 seq2]] w fun e w' => e = .returned (.bool false) ∧ Below w.heap.size w w' := by
  have hla := Nat.le_trans hA.1 hA.2.1
  have hlb := Nat.le_trans hB.1 hB.2.1
  unfold maxLen at hla hlb
  have hb2 : Below w.heap.size w ((w.alloc (.cells #[.int .i64 ty, .int .i64 ld, .int .i64 ap, .int .i64 aq, .int .i64 ep, .int .i64 own, .int .i64 fp, .int .i64 fq, .int .i64 rnd, .int .i64 st1, .int .i64 kd1, .string (bs body1), .slice a ents1.length ca, .bool flag1, .int .i64 node1, .int .i64 cli1, .int .i64 seq1] 51)).alloc (.cells #[.int .i64 ty, .int .i64 ld, .int .i64 ap, .int .i64 aq, .int .i64 ep, .int .i64 own, .int .i64 fp, .int .i64 fq, .int .i64 rnd, .int .i64 st2, .int .i64 kd2, .string (bs body2), .slice b ents2.length cb, .bool flag2, .int .i64 node2, .int .i64 cli2, .int .i64 seq2] 51)) := ((Below.refl _ w).alloc (Nat.le_refl _) _).alloc (by simp) _
  have t0 : (st1 == st2) = false := beq_eq_false_iff_ne.2 hd
  have HB := Lib.hid hb2
  clear hA hB hb2 hd
  go_enter Try.func40, Try.ntmps40
  go_wp2
  go_ret
  exact ⟨rfl, HB.out⟩
set_option maxRecDepth 100000 in
set_option maxHeartbeats 16000000 in
theorem same_no_kd (a b : Option Addr) (ca cb : Nat) (ty : Int) (ld : Int) (ap aq : Int) (ep : Int) (own : Int) (fp fq : Int) (rnd : Int) (st : Int) (kd1 kd2 : Int) (body1 body2 : List UInt8) (ents1 ents2 : List Ent) (flag1 flag2 : Bool) (node1 node2 : Int) (cli1 cli2 : Int) (seq1 seq2 : Int) (hd : kd1 ≠ kd2) (w : World) (hA : EntsIn w a ca ents1) (hB : EntsIn w b cb ents2) : Calls Try.prog 40 #[.agg #[.int .i64 ty, .int .i64 ld, .int .i64 ap, .int .i64 aq, .int .i64 ep, .int .i64 own, .int .i64 fp, .int .i64 fq, .int .i64 rnd, .int .i64 st, .int .i64 kd1, .string (bs body1), .slice a ents1.length ca, .bool flag1, .int .i64 node1, .int .i64 cli1, .int .i64 seq1], .agg #[.int .i64 ty, .int .i64 ld, .int .i64 ap, .int .i64 aq, .int .i64 ep, .int .i64 own, .int .i64 fp, .int .i64 fq, .int .i64 rnd, .int .i64 st, .int .i64 kd2, .string (bs body2), .slice b ents2.length cb, .bool flag2, .int .i64 node2, .int .i64 cli2, .int .i64 seq2]] w fun e w' => e = .returned (.bool false) ∧ Below w.heap.size w w' := by
  have hla := Nat.le_trans hA.1 hA.2.1
  have hlb := Nat.le_trans hB.1 hB.2.1
  unfold maxLen at hla hlb
  have hb2 : Below w.heap.size w ((w.alloc (.cells #[.int .i64 ty, .int .i64 ld, .int .i64 ap, .int .i64 aq, .int .i64 ep, .int .i64 own, .int .i64 fp, .int .i64 fq, .int .i64 rnd, .int .i64 st, .int .i64 kd1, .string (bs body1), .slice a ents1.length ca, .bool flag1, .int .i64 node1, .int .i64 cli1, .int .i64 seq1] 51)).alloc (.cells #[.int .i64 ty, .int .i64 ld, .int .i64 ap, .int .i64 aq, .int .i64 ep, .int .i64 own, .int .i64 fp, .int .i64 fq, .int .i64 rnd, .int .i64 st, .int .i64 kd2, .string (bs body2), .slice b ents2.length cb, .bool flag2, .int .i64 node2, .int .i64 cli2, .int .i64 seq2] 51)) := ((Below.refl _ w).alloc (Nat.le_refl _) _).alloc (by simp) _
  have t0 : (kd1 == kd2) = false := beq_eq_false_iff_ne.2 hd
  have HB := Lib.hid hb2
  clear hA hB hb2 hd
  go_enter Try.func40, Try.ntmps40
  go_wp2
  go_ret
  exact ⟨rfl, HB.out⟩
set_option maxRecDepth 100000 in
set_option maxHeartbeats 16000000 in
theorem same_no_body (a b : Option Addr) (ca cb : Nat) (ty : Int) (ld : Int) (ap aq : Int) (ep : Int) (own : Int) (fp fq : Int) (rnd : Int) (st : Int) (kd : Int) (body1 body2 : List UInt8) (ents1 ents2 : List Ent) (flag1 flag2 : Bool) (node1 node2 : Int) (cli1 cli2 : Int) (seq1 seq2 : Int) (hd : body1 ≠ body2) (w : World) (hA : EntsIn w a ca ents1) (hB : EntsIn w b cb ents2) : Calls Try.prog 40 #[.agg #[.int .i64 ty, .int .i64 ld, .int .i64 ap, .int .i64 aq, .int .i64 ep, .int .i64 own, .int .i64 fp, .int .i64 fq, .int .i64 rnd, .int .i64 st, .int .i64 kd, .string (bs body1), .slice a ents1.length ca, .bool flag1, .int .i64 node1, .int .i64 cli1, .int .i64 seq1], .agg #[.int .i64 ty, .int .i64 ld, .int .i64 ap, .int .i64 aq, .int .i64 ep, .int .i64 own, .int .i64 fp, .int .i64 fq, .int .i64 rnd, .int .i64 st, .int .i64 kd, .string (bs body2), .slice b ents2.length cb, .bool flag2, .int .i64 node2, .int .i64 cli2, .int .i64 seq2]] w fun e w' => e = .returned (.bool false) ∧ Below w.heap.size w w' := by
  have hla := Nat.le_trans hA.1 hA.2.1
  have hlb := Nat.le_trans hB.1 hB.2.1
  unfold maxLen at hla hlb
  have hb2 : Below w.heap.size w ((w.alloc (.cells #[.int .i64 ty, .int .i64 ld, .int .i64 ap, .int .i64 aq, .int .i64 ep, .int .i64 own, .int .i64 fp, .int .i64 fq, .int .i64 rnd, .int .i64 st, .int .i64 kd, .string (bs body1), .slice a ents1.length ca, .bool flag1, .int .i64 node1, .int .i64 cli1, .int .i64 seq1] 51)).alloc (.cells #[.int .i64 ty, .int .i64 ld, .int .i64 ap, .int .i64 aq, .int .i64 ep, .int .i64 own, .int .i64 fp, .int .i64 fq, .int .i64 rnd, .int .i64 st, .int .i64 kd, .string (bs body2), .slice b ents2.length cb, .bool flag2, .int .i64 node2, .int .i64 cli2, .int .i64 seq2] 51)) := ((Below.refl _ w).alloc (Nat.le_refl _) _).alloc (by simp) _
  have t0 : ((bs body1).toList == (bs body2).toList) = false := by rw [bs_toList, bs_toList]; exact beq_eq_false_iff_ne.2 hd
  have HB := Lib.hid hb2
  clear hA hB hb2 hd
  go_enter Try.func40, Try.ntmps40
  go_wp2
  go_ret
  exact ⟨rfl, HB.out⟩
set_option maxRecDepth 100000 in
set_option maxHeartbeats 16000000 in
theorem same_no_ents (a b : Option Addr) (ca cb : Nat) (ty : Int) (ld : Int) (ap aq : Int) (ep : Int) (own : Int) (fp fq : Int) (rnd : Int) (st : Int) (kd : Int) (body : List UInt8) (ents1 ents2 : List Ent) (flag1 flag2 : Bool) (node1 node2 : Int) (cli1 cli2 : Int) (seq1 seq2 : Int) (hd : ents1 ≠ ents2) (w : World) (hA : EntsIn w a ca ents1) (hB : EntsIn w b cb ents2) : Calls Try.prog 40 #[.agg #[.int .i64 ty, .int .i64 ld, .int .i64 ap, .int .i64 aq, .int .i64 ep, .int .i64 own, .int .i64 fp, .int .i64 fq, .int .i64 rnd, .int .i64 st, .int .i64 kd, .string (bs body), .slice a ents1.length ca, .bool flag1, .int .i64 node1, .int .i64 cli1, .int .i64 seq1], .agg #[.int .i64 ty, .int .i64 ld, .int .i64 ap, .int .i64 aq, .int .i64 ep, .int .i64 own, .int .i64 fp, .int .i64 fq, .int .i64 rnd, .int .i64 st, .int .i64 kd, .string (bs body), .slice b ents2.length cb, .bool flag2, .int .i64 node2, .int .i64 cli2, .int .i64 seq2]] w fun e w' => e = .returned (.bool false) ∧ Below w.heap.size w w' := by
  have hla := Nat.le_trans hA.1 hA.2.1
  have hlb := Nat.le_trans hB.1 hB.2.1
  unfold maxLen at hla hlb
  have hb2 : Below w.heap.size w ((w.alloc (.cells #[.int .i64 ty, .int .i64 ld, .int .i64 ap, .int .i64 aq, .int .i64 ep, .int .i64 own, .int .i64 fp, .int .i64 fq, .int .i64 rnd, .int .i64 st, .int .i64 kd, .string (bs body), .slice a ents1.length ca, .bool flag1, .int .i64 node1, .int .i64 cli1, .int .i64 seq1] 51)).alloc (.cells #[.int .i64 ty, .int .i64 ld, .int .i64 ap, .int .i64 aq, .int .i64 ep, .int .i64 own, .int .i64 fp, .int .i64 fq, .int .i64 rnd, .int .i64 st, .int .i64 kd, .string (bs body), .slice b ents2.length cb, .bool flag2, .int .i64 node2, .int .i64 cli2, .int .i64 seq2] 51)) := ((Below.refl _ w).alloc (Nat.le_refl _) _).alloc (by simp) _
  have HS := sameents_any ents1 ents2 a b ca cb _ (hA.grew hb2).2.2.1 (hB.grew hb2).2.2.1 (by omega) (by omega)
  rw [show sameE ents1 ents2 = false from decide_eq_false hd] at HS
  have HS := Lib.hid HS
  have t9 : ((bs body).toList == (bs body).toList) = true := beq_self_eq_true _
  have HB := Lib.hid hb2
  clear hA hB hb2 hd
  go_enter Try.func40, Try.ntmps40
  go_wp2_with (fail)
  refine HS.out.mono ?_
  rintro e w1 ⟨rfl, hb1⟩
  go_wp2
  go_ret
  exact ⟨rfl, HB.out.trans (hb1.mono HB.out.size)⟩
set_option maxRecDepth 100000 in
set_option maxHeartbeats 16000000 in
theorem same_no_flag (a b : Option Addr) (ca cb : Nat) (ty : Int) (ld : Int) (ap aq : Int) (ep : Int) (own : Int) (fp fq : Int) (rnd : Int) (st : Int) (kd : Int) (body : List UInt8) (ents : List Ent) (flag1 flag2 : Bool) (node1 node2 : Int) (cli1 cli2 : Int) (seq1 seq2 : Int) (hd : flag1 ≠ flag2) (w : World) (hA : EntsIn w a ca ents) (hB : EntsIn w b cb ents) : Calls Try.prog 40 #[.agg #[.int .i64 ty, .int .i64 ld, .int .i64 ap, .int .i64 aq, .int .i64 ep, .int .i64 own, .int .i64 fp, .int .i64 fq, .int .i64 rnd, .int .i64 st, .int .i64 kd, .string (bs body), .slice a ents.length ca, .bool flag1, .int .i64 node1, .int .i64 cli1, .int .i64 seq1], .agg #[.int .i64 ty, .int .i64 ld, .int .i64 ap, .int .i64 aq, .int .i64 ep, .int .i64 own, .int .i64 fp, .int .i64 fq, .int .i64 rnd, .int .i64 st, .int .i64 kd, .string (bs body), .slice b ents.length cb, .bool flag2, .int .i64 node2, .int .i64 cli2, .int .i64 seq2]] w fun e w' => e = .returned (.bool false) ∧ Below w.heap.size w w' := by
  have hla := Nat.le_trans hA.1 hA.2.1
  have hlb := Nat.le_trans hB.1 hB.2.1
  unfold maxLen at hla hlb
  have hb2 : Below w.heap.size w ((w.alloc (.cells #[.int .i64 ty, .int .i64 ld, .int .i64 ap, .int .i64 aq, .int .i64 ep, .int .i64 own, .int .i64 fp, .int .i64 fq, .int .i64 rnd, .int .i64 st, .int .i64 kd, .string (bs body), .slice a ents.length ca, .bool flag1, .int .i64 node1, .int .i64 cli1, .int .i64 seq1] 51)).alloc (.cells #[.int .i64 ty, .int .i64 ld, .int .i64 ap, .int .i64 aq, .int .i64 ep, .int .i64 own, .int .i64 fp, .int .i64 fq, .int .i64 rnd, .int .i64 st, .int .i64 kd, .string (bs body), .slice b ents.length cb, .bool flag2, .int .i64 node2, .int .i64 cli2, .int .i64 seq2] 51)) := ((Below.refl _ w).alloc (Nat.le_refl _) _).alloc (by simp) _
  have HS := sameents_any ents ents a b ca cb _ (hA.grew hb2).2.2.1 (hB.grew hb2).2.2.1 (by omega) (by omega)
  rw [show sameE ents ents = true from decide_eq_true rfl] at HS
  have HS := Lib.hid HS
  have t9 : ((bs body).toList == (bs body).toList) = true := beq_self_eq_true _
  have t0 : (flag1 == flag2) = false := beq_eq_false_iff_ne.2 hd
  have HB := Lib.hid hb2
  clear hA hB hb2 hd
  go_enter Try.func40, Try.ntmps40
  go_wp2_with (fail)
  refine HS.out.mono ?_
  rintro e w1 ⟨rfl, hb1⟩
  have k013 : w1.cell? ⟨w.heap.size, 13, none⟩ = some (.bool flag1) := Grew.cell hb1 (by simp)
  have k014 : w1.cell? ⟨w.heap.size, 14, none⟩ = some (.int .i64 node1) := Grew.cell hb1 (by simp)
  have k015 : w1.cell? ⟨w.heap.size, 15, none⟩ = some (.int .i64 cli1) := Grew.cell hb1 (by simp)
  have k016 : w1.cell? ⟨w.heap.size, 16, none⟩ = some (.int .i64 seq1) := Grew.cell hb1 (by simp)
  have k113 : w1.cell? ⟨w.heap.size + 1, 13, none⟩ = some (.bool flag2) := Grew.cell hb1 (by simp)
  have k114 : w1.cell? ⟨w.heap.size + 1, 14, none⟩ = some (.int .i64 node2) := Grew.cell hb1 (by simp)
  have k115 : w1.cell? ⟨w.heap.size + 1, 15, none⟩ = some (.int .i64 cli2) := Grew.cell hb1 (by simp)
  have k116 : w1.cell? ⟨w.heap.size + 1, 16, none⟩ = some (.int .i64 seq2) := Grew.cell hb1 (by simp)
  go_wp2
  go_ret
  exact ⟨rfl, HB.out.trans (hb1.mono HB.out.size)⟩
set_option maxRecDepth 100000 in
set_option maxHeartbeats 16000000 in
theorem same_no_node (a b : Option Addr) (ca cb : Nat) (ty : Int) (ld : Int) (ap aq : Int) (ep : Int) (own : Int) (fp fq : Int) (rnd : Int) (st : Int) (kd : Int) (body : List UInt8) (ents : List Ent) (flag : Bool) (node1 node2 : Int) (cli1 cli2 : Int) (seq1 seq2 : Int) (hd : node1 ≠ node2) (w : World) (hA : EntsIn w a ca ents) (hB : EntsIn w b cb ents) : Calls Try.prog 40 #[.agg #[.int .i64 ty, .int .i64 ld, .int .i64 ap, .int .i64 aq, .int .i64 ep, .int .i64 own, .int .i64 fp, .int .i64 fq, .int .i64 rnd, .int .i64 st, .int .i64 kd, .string (bs body), .slice a ents.length ca, .bool flag, .int .i64 node1, .int .i64 cli1, .int .i64 seq1], .agg #[.int .i64 ty, .int .i64 ld, .int .i64 ap, .int .i64 aq, .int .i64 ep, .int .i64 own, .int .i64 fp, .int .i64 fq, .int .i64 rnd, .int .i64 st, .int .i64 kd, .string (bs body), .slice b ents.length cb, .bool flag, .int .i64 node2, .int .i64 cli2, .int .i64 seq2]] w fun e w' => e = .returned (.bool false) ∧ Below w.heap.size w w' := by
  have hla := Nat.le_trans hA.1 hA.2.1
  have hlb := Nat.le_trans hB.1 hB.2.1
  unfold maxLen at hla hlb
  have hb2 : Below w.heap.size w ((w.alloc (.cells #[.int .i64 ty, .int .i64 ld, .int .i64 ap, .int .i64 aq, .int .i64 ep, .int .i64 own, .int .i64 fp, .int .i64 fq, .int .i64 rnd, .int .i64 st, .int .i64 kd, .string (bs body), .slice a ents.length ca, .bool flag, .int .i64 node1, .int .i64 cli1, .int .i64 seq1] 51)).alloc (.cells #[.int .i64 ty, .int .i64 ld, .int .i64 ap, .int .i64 aq, .int .i64 ep, .int .i64 own, .int .i64 fp, .int .i64 fq, .int .i64 rnd, .int .i64 st, .int .i64 kd, .string (bs body), .slice b ents.length cb, .bool flag, .int .i64 node2, .int .i64 cli2, .int .i64 seq2] 51)) := ((Below.refl _ w).alloc (Nat.le_refl _) _).alloc (by simp) _
  have HS := sameents_any ents ents a b ca cb _ (hA.grew hb2).2.2.1 (hB.grew hb2).2.2.1 (by omega) (by omega)
  rw [show sameE ents ents = true from decide_eq_true rfl] at HS
  have HS := Lib.hid HS
  have t9 : ((bs body).toList == (bs body).toList) = true := beq_self_eq_true _
  have t0 : (node1 == node2) = false := beq_eq_false_iff_ne.2 hd
  have HB := Lib.hid hb2
  clear hA hB hb2 hd
  go_enter Try.func40, Try.ntmps40
  go_wp2_with (fail)
  refine HS.out.mono ?_
  rintro e w1 ⟨rfl, hb1⟩
  have k013 : w1.cell? ⟨w.heap.size, 13, none⟩ = some (.bool flag) := Grew.cell hb1 (by simp)
  have k014 : w1.cell? ⟨w.heap.size, 14, none⟩ = some (.int .i64 node1) := Grew.cell hb1 (by simp)
  have k015 : w1.cell? ⟨w.heap.size, 15, none⟩ = some (.int .i64 cli1) := Grew.cell hb1 (by simp)
  have k016 : w1.cell? ⟨w.heap.size, 16, none⟩ = some (.int .i64 seq1) := Grew.cell hb1 (by simp)
  have k113 : w1.cell? ⟨w.heap.size + 1, 13, none⟩ = some (.bool flag) := Grew.cell hb1 (by simp)
  have k114 : w1.cell? ⟨w.heap.size + 1, 14, none⟩ = some (.int .i64 node2) := Grew.cell hb1 (by simp)
  have k115 : w1.cell? ⟨w.heap.size + 1, 15, none⟩ = some (.int .i64 cli2) := Grew.cell hb1 (by simp)
  have k116 : w1.cell? ⟨w.heap.size + 1, 16, none⟩ = some (.int .i64 seq2) := Grew.cell hb1 (by simp)
  go_wp2
  go_ret
  exact ⟨rfl, HB.out.trans (hb1.mono HB.out.size)⟩
set_option maxRecDepth 100000 in
set_option maxHeartbeats 16000000 in
theorem same_no_cli (a b : Option Addr) (ca cb : Nat) (ty : Int) (ld : Int) (ap aq : Int) (ep : Int) (own : Int) (fp fq : Int) (rnd : Int) (st : Int) (kd : Int) (body : List UInt8) (ents : List Ent) (flag : Bool) (node : Int) (cli1 cli2 : Int) (seq1 seq2 : Int) (hd : cli1 ≠ cli2) (w : World) (hA : EntsIn w a ca ents) (hB : EntsIn w b cb ents) : Calls Try.prog 40 #[.agg #[.int .i64 ty, .int .i64 ld, .int .i64 ap, .int .i64 aq, .int .i64 ep, .int .i64 own, .int .i64 fp, .int .i64 fq, .int .i64 rnd, .int .i64 st, .int .i64 kd, .string (bs body), .slice a ents.length ca, .bool flag, .int .i64 node, .int .i64 cli1, .int .i64 seq1], .agg #[.int .i64 ty, .int .i64 ld, .int .i64 ap, .int .i64 aq, .int .i64 ep, .int .i64 own, .int .i64 fp, .int .i64 fq, .int .i64 rnd, .int .i64 st, .int .i64 kd, .string (bs body), .slice b ents.length cb, .bool flag, .int .i64 node, .int .i64 cli2, .int .i64 seq2]] w fun e w' => e = .returned (.bool false) ∧ Below w.heap.size w w' := by
  have hla := Nat.le_trans hA.1 hA.2.1
  have hlb := Nat.le_trans hB.1 hB.2.1
  unfold maxLen at hla hlb
  have hb2 : Below w.heap.size w ((w.alloc (.cells #[.int .i64 ty, .int .i64 ld, .int .i64 ap, .int .i64 aq, .int .i64 ep, .int .i64 own, .int .i64 fp, .int .i64 fq, .int .i64 rnd, .int .i64 st, .int .i64 kd, .string (bs body), .slice a ents.length ca, .bool flag, .int .i64 node, .int .i64 cli1, .int .i64 seq1] 51)).alloc (.cells #[.int .i64 ty, .int .i64 ld, .int .i64 ap, .int .i64 aq, .int .i64 ep, .int .i64 own, .int .i64 fp, .int .i64 fq, .int .i64 rnd, .int .i64 st, .int .i64 kd, .string (bs body), .slice b ents.length cb, .bool flag, .int .i64 node, .int .i64 cli2, .int .i64 seq2] 51)) := ((Below.refl _ w).alloc (Nat.le_refl _) _).alloc (by simp) _
  have HS := sameents_any ents ents a b ca cb _ (hA.grew hb2).2.2.1 (hB.grew hb2).2.2.1 (by omega) (by omega)
  rw [show sameE ents ents = true from decide_eq_true rfl] at HS
  have HS := Lib.hid HS
  have t9 : ((bs body).toList == (bs body).toList) = true := beq_self_eq_true _
  have t0 : (cli1 == cli2) = false := beq_eq_false_iff_ne.2 hd
  have HB := Lib.hid hb2
  clear hA hB hb2 hd
  go_enter Try.func40, Try.ntmps40
  go_wp2_with (fail)
  refine HS.out.mono ?_
  rintro e w1 ⟨rfl, hb1⟩
  have k013 : w1.cell? ⟨w.heap.size, 13, none⟩ = some (.bool flag) := Grew.cell hb1 (by simp)
  have k014 : w1.cell? ⟨w.heap.size, 14, none⟩ = some (.int .i64 node) := Grew.cell hb1 (by simp)
  have k015 : w1.cell? ⟨w.heap.size, 15, none⟩ = some (.int .i64 cli1) := Grew.cell hb1 (by simp)
  have k016 : w1.cell? ⟨w.heap.size, 16, none⟩ = some (.int .i64 seq1) := Grew.cell hb1 (by simp)
  have k113 : w1.cell? ⟨w.heap.size + 1, 13, none⟩ = some (.bool flag) := Grew.cell hb1 (by simp)
  have k114 : w1.cell? ⟨w.heap.size + 1, 14, none⟩ = some (.int .i64 node) := Grew.cell hb1 (by simp)
  have k115 : w1.cell? ⟨w.heap.size + 1, 15, none⟩ = some (.int .i64 cli2) := Grew.cell hb1 (by simp)
  have k116 : w1.cell? ⟨w.heap.size + 1, 16, none⟩ = some (.int .i64 seq2) := Grew.cell hb1 (by simp)
  go_wp2
  go_ret
  exact ⟨rfl, HB.out.trans (hb1.mono HB.out.size)⟩
set_option maxRecDepth 100000 in
set_option maxHeartbeats 16000000 in
theorem same_no_seq (a b : Option Addr) (ca cb : Nat) (ty : Int) (ld : Int) (ap aq : Int) (ep : Int) (own : Int) (fp fq : Int) (rnd : Int) (st : Int) (kd : Int) (body : List UInt8) (ents : List Ent) (flag : Bool) (node : Int) (cli : Int) (seq1 seq2 : Int) (hd : seq1 ≠ seq2) (w : World) (hA : EntsIn w a ca ents) (hB : EntsIn w b cb ents) : Calls Try.prog 40 #[.agg #[.int .i64 ty, .int .i64 ld, .int .i64 ap, .int .i64 aq, .int .i64 ep, .int .i64 own, .int .i64 fp, .int .i64 fq, .int .i64 rnd, .int .i64 st, .int .i64 kd, .string (bs body), .slice a ents.length ca, .bool flag, .int .i64 node, .int .i64 cli, .int .i64 seq1], .agg #[.int .i64 ty, .int .i64 ld, .int .i64 ap, .int .i64 aq, .int .i64 ep, .int .i64 own, .int .i64 fp, .int .i64 fq, .int .i64 rnd, .int .i64 st, .int .i64 kd, .string (bs body), .slice b ents.length cb, .bool flag, .int .i64 node, .int .i64 cli, .int .i64 seq2]] w fun e w' => e = .returned (.bool false) ∧ Below w.heap.size w w' := by
  have hla := Nat.le_trans hA.1 hA.2.1
  have hlb := Nat.le_trans hB.1 hB.2.1
  unfold maxLen at hla hlb
  have hb2 : Below w.heap.size w ((w.alloc (.cells #[.int .i64 ty, .int .i64 ld, .int .i64 ap, .int .i64 aq, .int .i64 ep, .int .i64 own, .int .i64 fp, .int .i64 fq, .int .i64 rnd, .int .i64 st, .int .i64 kd, .string (bs body), .slice a ents.length ca, .bool flag, .int .i64 node, .int .i64 cli, .int .i64 seq1] 51)).alloc (.cells #[.int .i64 ty, .int .i64 ld, .int .i64 ap, .int .i64 aq, .int .i64 ep, .int .i64 own, .int .i64 fp, .int .i64 fq, .int .i64 rnd, .int .i64 st, .int .i64 kd, .string (bs body), .slice b ents.length cb, .bool flag, .int .i64 node, .int .i64 cli, .int .i64 seq2] 51)) := ((Below.refl _ w).alloc (Nat.le_refl _) _).alloc (by simp) _
  have HS := sameents_any ents ents a b ca cb _ (hA.grew hb2).2.2.1 (hB.grew hb2).2.2.1 (by omega) (by omega)
  rw [show sameE ents ents = true from decide_eq_true rfl] at HS
  have HS := Lib.hid HS
  have t9 : ((bs body).toList == (bs body).toList) = true := beq_self_eq_true _
  have t0 : (seq1 == seq2) = false := beq_eq_false_iff_ne.2 hd
  have HB := Lib.hid hb2
  clear hA hB hb2 hd
  go_enter Try.func40, Try.ntmps40
  go_wp2_with (fail)
  refine HS.out.mono ?_
  rintro e w1 ⟨rfl, hb1⟩
  have k013 : w1.cell? ⟨w.heap.size, 13, none⟩ = some (.bool flag) := Grew.cell hb1 (by simp)
  have k014 : w1.cell? ⟨w.heap.size, 14, none⟩ = some (.int .i64 node) := Grew.cell hb1 (by simp)
  have k015 : w1.cell? ⟨w.heap.size, 15, none⟩ = some (.int .i64 cli) := Grew.cell hb1 (by simp)
  have k016 : w1.cell? ⟨w.heap.size, 16, none⟩ = some (.int .i64 seq1) := Grew.cell hb1 (by simp)
  have k113 : w1.cell? ⟨w.heap.size + 1, 13, none⟩ = some (.bool flag) := Grew.cell hb1 (by simp)
  have k114 : w1.cell? ⟨w.heap.size + 1, 14, none⟩ = some (.int .i64 node) := Grew.cell hb1 (by simp)
  have k115 : w1.cell? ⟨w.heap.size + 1, 15, none⟩ = some (.int .i64 cli) := Grew.cell hb1 (by simp)
  have k116 : w1.cell? ⟨w.heap.size + 1, 16, none⟩ = some (.int .i64 seq2) := Grew.cell hb1 (by simp)
  go_wp2
  go_ret
  exact ⟨rfl, HB.out.trans (hb1.mono HB.out.size)⟩
instance : DecidableEq Msg := fun a b => by
  obtain ⟨a0, a1, ⟨a2, a2'⟩, a3, a4, ⟨a5, a5'⟩, a6, a7, a8, a9, a10, a11, a12, a13, a14⟩ := a
  obtain ⟨b0, b1, ⟨b2, b2'⟩, b3, b4, ⟨b5, b5'⟩, b6, b7, b8, b9, b10, b11, b12, b13, b14⟩ := b
  exact decidable_of_iff (a0 = b0 ∧ a1 = b1 ∧ a2 = b2 ∧ a2' = b2' ∧ a3 = b3 ∧ a4 = b4 ∧ a5 = b5 ∧ a5' = b5' ∧ a6 = b6 ∧ a7 = b7 ∧ a8 = b8 ∧ a9 = b9 ∧ a10 = b10 ∧ a11 = b11 ∧ a12 = b12 ∧ a13 = b13 ∧ a14 = b14) (by simp only [Msg.mk.injEq, Prod.mk.injEq, and_assoc])
theorem sameM_any (x y : Msg) (a b : Option Addr) (ca cb : Nat) (w : World) (hA : EntsIn w a ca x.ents) (hB : EntsIn w b cb y.ents) : Calls Try.prog 40 #[msgV x a ca, msgV y b cb] w fun e w' => e = .returned (.bool (decide (x = y))) ∧ Below w.heap.size w w' := by
  by_cases hxy : x = y
  · subst hxy
    rw [decide_eq_true rfl]
    exact same_yes x a b ca cb w hA hB
  rw [decide_eq_false hxy]
  obtain ⟨ty1, ld1, ⟨ap1, aq1⟩, ep1, own1, ⟨fp1, fq1⟩, rnd1, st1, kd1, body1, ents1, flag1, node1, cli1, seq1⟩ := x
  obtain ⟨ty2, ld2, ⟨ap2, aq2⟩, ep2, own2, ⟨fp2, fq2⟩, rnd2, st2, kd2, body2, ents2, flag2, node2, cli2, seq2⟩ := y
  simp only at hA hB
  unfold msgV msgCells
  simp only
  by_cases h0 : ty1 = ty2
  case neg => exact same_no_ty a b ca cb ty1 ty2 ld1 ld2 ap1 aq1 ap2 aq2 ep1 ep2 own1 own2 fp1 fq1 fp2 fq2 rnd1 rnd2 st1 st2 kd1 kd2 body1 body2 ents1 ents2 flag1 flag2 node1 node2 cli1 cli2 seq1 seq2 h0 w hA hB
  subst h0
  by_cases h1 : ld1 = ld2
  case neg => exact same_no_ld a b ca cb ty1 ld1 ld2 ap1 aq1 ap2 aq2 ep1 ep2 own1 own2 fp1 fq1 fp2 fq2 rnd1 rnd2 st1 st2 kd1 kd2 body1 body2 ents1 ents2 flag1 flag2 node1 node2 cli1 cli2 seq1 seq2 h1 w hA hB
  subst h1
  by_cases h2p : ap1 = ap2
  case neg => exact same_no_a1 a b ca cb ty1 ld1 ap1 aq1 ap2 aq2 ep1 ep2 own1 own2 fp1 fq1 fp2 fq2 rnd1 rnd2 st1 st2 kd1 kd2 body1 body2 ents1 ents2 flag1 flag2 node1 node2 cli1 cli2 seq1 seq2 h2p w hA hB
  subst h2p
  by_cases h2q : aq1 = aq2
  case neg => exact same_no_a2 a b ca cb ty1 ld1 ap1 aq1 aq2 ep1 ep2 own1 own2 fp1 fq1 fp2 fq2 rnd1 rnd2 st1 st2 kd1 kd2 body1 body2 ents1 ents2 flag1 flag2 node1 node2 cli1 cli2 seq1 seq2 h2q w hA hB
  subst h2q
  by_cases h3 : ep1 = ep2
  case neg => exact same_no_ep a b ca cb ty1 ld1 ap1 aq1 ep1 ep2 own1 own2 fp1 fq1 fp2 fq2 rnd1 rnd2 st1 st2 kd1 kd2 body1 body2 ents1 ents2 flag1 flag2 node1 node2 cli1 cli2 seq1 seq2 h3 w hA hB
  subst h3
  by_cases h4 : own1 = own2
  case neg => exact same_no_own a b ca cb ty1 ld1 ap1 aq1 ep1 own1 own2 fp1 fq1 fp2 fq2 rnd1 rnd2 st1 st2 kd1 kd2 body1 body2 ents1 ents2 flag1 flag2 node1 node2 cli1 cli2 seq1 seq2 h4 w hA hB
  subst h4
  by_cases h5p : fp1 = fp2
  case neg => exact same_no_f1 a b ca cb ty1 ld1 ap1 aq1 ep1 own1 fp1 fq1 fp2 fq2 rnd1 rnd2 st1 st2 kd1 kd2 body1 body2 ents1 ents2 flag1 flag2 node1 node2 cli1 cli2 seq1 seq2 h5p w hA hB
  subst h5p
  by_cases h5q : fq1 = fq2
  case neg => exact same_no_f2 a b ca cb ty1 ld1 ap1 aq1 ep1 own1 fp1 fq1 fq2 rnd1 rnd2 st1 st2 kd1 kd2 body1 body2 ents1 ents2 flag1 flag2 node1 node2 cli1 cli2 seq1 seq2 h5q w hA hB
  subst h5q
  by_cases h6 : rnd1 = rnd2
  case neg => exact same_no_rnd a b ca cb ty1 ld1 ap1 aq1 ep1 own1 fp1 fq1 rnd1 rnd2 st1 st2 kd1 kd2 body1 body2 ents1 ents2 flag1 flag2 node1 node2 cli1 cli2 seq1 seq2 h6 w hA hB
  subst h6
  by_cases h7 : st1 = st2
  case neg => exact same_no_st a b ca cb ty1 ld1 ap1 aq1 ep1 own1 fp1 fq1 rnd1 st1 st2 kd1 kd2 body1 body2 ents1 ents2 flag1 flag2 node1 node2 cli1 cli2 seq1 seq2 h7 w hA hB
  subst h7
  by_cases h8 : kd1 = kd2
  case neg => exact same_no_kd a b ca cb ty1 ld1 ap1 aq1 ep1 own1 fp1 fq1 rnd1 st1 kd1 kd2 body1 body2 ents1 ents2 flag1 flag2 node1 node2 cli1 cli2 seq1 seq2 h8 w hA hB
  subst h8
  by_cases h9 : body1 = body2
  case neg => exact same_no_body a b ca cb ty1 ld1 ap1 aq1 ep1 own1 fp1 fq1 rnd1 st1 kd1 body1 body2 ents1 ents2 flag1 flag2 node1 node2 cli1 cli2 seq1 seq2 h9 w hA hB
  subst h9
  by_cases h10 : ents1 = ents2
  case neg => exact same_no_ents a b ca cb ty1 ld1 ap1 aq1 ep1 own1 fp1 fq1 rnd1 st1 kd1 body1 ents1 ents2 flag1 flag2 node1 node2 cli1 cli2 seq1 seq2 h10 w hA hB
  subst h10
  by_cases h11 : flag1 = flag2
  case neg => exact same_no_flag a b ca cb ty1 ld1 ap1 aq1 ep1 own1 fp1 fq1 rnd1 st1 kd1 body1 ents1 flag1 flag2 node1 node2 cli1 cli2 seq1 seq2 h11 w hA hB
  subst h11
  by_cases h12 : node1 = node2
  case neg => exact same_no_node a b ca cb ty1 ld1 ap1 aq1 ep1 own1 fp1 fq1 rnd1 st1 kd1 body1 ents1 flag1 node1 node2 cli1 cli2 seq1 seq2 h12 w hA hB
  subst h12
  by_cases h13 : cli1 = cli2
  case neg => exact same_no_cli a b ca cb ty1 ld1 ap1 aq1 ep1 own1 fp1 fq1 rnd1 st1 kd1 body1 ents1 flag1 node1 cli1 cli2 seq1 seq2 h13 w hA hB
  subst h13
  by_cases h14 : seq1 = seq2
  case neg => exact same_no_seq a b ca cb ty1 ld1 ap1 aq1 ep1 own1 fp1 fq1 rnd1 st1 kd1 body1 ents1 flag1 node1 cli1 seq1 seq2 h14 w hA hB
  subst h14
  exact absurd rfl hxy
end Go.Proofs.Ytlbacddgjagcbaa
