/- The reference's num, text, flag, rang, ops, Ask, Read and Answer. Printed by gen/genTalR.py. Conditions: as each theorem says. -/
import Derived.Test.YtlcblkmmkphpmaaTalY
namespace Go.Proofs.Ytlcblkmmkphpmaa
open Go.RowKit

theorem range7 {w : World} {b o : Nat} {v0 v1 v2 v3 v4 v5 v6 : Value} (h0 : w.cell? ⟨b, o, none⟩ = some v0) (h1 : w.cell? ⟨b, o + 1, none⟩ = some v1) (h2 : w.cell? ⟨b, o + 2, none⟩ = some v2) (h3 : w.cell? ⟨b, o + 3, none⟩ = some v3) (h4 : w.cell? ⟨b, o + 4, none⟩ = some v4) (h5 : w.cell? ⟨b, o + 5, none⟩ = some v5) (h6 : w.cell? ⟨b, o + 6, none⟩ = some v6) : w.rangeAt b o [v0, v1, v2, v3, v4, v5, v6] := by
  intro j v hj
  match j, hj with
  | 0, hj => simp only [List.getElem?_cons_zero, Option.some.injEq] at hj; subst hj; exact h0
  | 1, hj => simp at hj; subst hj; exact h1
  | 2, hj => simp at hj; subst hj; exact h2
  | 3, hj => simp at hj; subst hj; exact h3
  | 4, hj => simp at hj; subst hj; exact h4
  | 5, hj => simp at hj; subst hj; exact h5
  | 6, hj => simp at hj; subst hj; exact h6
set_option maxRecDepth 100000 in
theorem refnum21 (n : Int) (h : i64 n) (w : World) : Calls Try.prog 44 #[.int .i64 n] w fun e w' => e = .returned (.string (bs (numL n))) ∧ Below w.heap.size w w' := by
  have HN := Lib.hid (fun X => refnum_any n h.1 h.2 X)
  generalize numL n = R at *
  go_enter Try.func44, Try.ntmps44
  go_wp2_with (fail)
  refine (HN.out _).mono ?_
  rintro e w1 ⟨rfl, hb⟩
  go_wp2
  go_ret
  exact ⟨rfl, hb⟩
set_option maxRecDepth 100000 in
theorem reftext21 (n : Byt) (h : n.length ≤ 4611686018427387903) (w : World) : Calls Try.prog 45 #[.string (bs n)] w fun e w' => e = .returned (.string (bs (textL n))) ∧ Below w.heap.size w w' := by
  have HN := Lib.hid (fun X => reftext_any n h X)
  generalize textL n = R at *
  go_enter Try.func45, Try.ntmps45
  go_wp2_with (fail)
  refine (HN.out _).mono ?_
  rintro e w1 ⟨rfl, hb⟩
  go_wp2
  go_ret
  exact ⟨rfl, hb⟩
set_option maxRecDepth 100000 in
theorem refflag21 (f : Bool) (w : World) : Calls Try.prog 52 #[.bool f] w fun e w' => e = .returned (.string (bs (flagC.enc f))) ∧ Below w.heap.size w w' := by
  have HN : Hid (∀ X, Calls Try.prog 44 #[.int .i64 (b2i f)] X fun e w' => e = .returned (.string (bs (flagC.enc f))) ∧ Below X.heap.size X w') := Lib.hid (fun X => refnum21 (b2i f) (by unfold i64 b2i; split <;> omega) X)
  generalize flagC.enc f = R at *
  cases f
  all_goals
    simp only [b2i, if_true, Bool.false_eq_true, if_false] at HN
    go_enter Try.func52, Try.ntmps52
    go_wp2_with (fail)
    refine (HN.out _).mono ?_
    rintro e w1 ⟨rfl, hb⟩
    go_wp2
    go_ret
    exact ⟨rfl, hb⟩
set_option maxRecDepth 100000 in
set_option maxHeartbeats 2000000 in
theorem refrang21 (x : Rg) (hok : rgC.ok x) (hd : (rgC.enc x).length ≤ 140737488355328) (w : World) : Calls Try.prog 48 #[.agg (rgV x).toArray] w fun e w' => e = .returned (.string (bs (rgC.enc x))) ∧ Below w.heap.size w w' := by
  have he : rgC.enc x = textL x.key ++ (textL x.end_ ++ (numL x.rev ++ (numL x.limit ++ (flagC.enc x.keys ++ (flagC.enc x.count ++ (flagC.enc x.desc)))))) := rfl
  have hsum := hd
  rw [he] at hsum
  simp only [List.length_append] at hsum
  have ht0 : x.key.length ≤ (textL x.key).length := by unfold textL; rw [List.length_append]; omega
  have ht1 : x.end_.length ≤ (textL x.end_).length := by unfold textL; rw [List.length_append]; omega
  have H0 := Lib.hid (fun X => reftext21 x.key (by omega) X)
  have H1 := Lib.hid (fun X => reftext21 x.end_ (by omega) X)
  have H2 := Lib.hid (fun X => refnum21 (x.rev) (hok.2.2.1) X)
  have H3 := Lib.hid (fun X => refnum21 (x.limit) (hok.2.2.2.1) X)
  have H4 := Lib.hid (fun X => refflag21 x.keys X)
  have H5 := Lib.hid (fun X => refflag21 x.count X)
  have H6 := Lib.hid (fun X => refflag21 x.desc X)
  have HO : Hid (rgC.enc x = textL x.key ++ textL x.end_ ++ numL x.rev ++ numL x.limit ++ flagC.enc x.keys ++ flagC.enc x.count ++ flagC.enc x.desc) := Lib.hid (by rw [he]; simp only [List.append_assoc])
  rw [HO.out]
  clear HO he hok hd ht0 ht1
  generalize textL x.key = P0 at *
  generalize textL x.end_ = P1 at *
  generalize numL x.rev = P2 at *
  generalize numL x.limit = P3 at *
  generalize flagC.enc x.keys = P4 at *
  generalize flagC.enc x.count = P5 at *
  generalize flagC.enc x.desc = P6 at *
  have s1 : ¬ 9223372036854775807 < (bs P0).size + (bs P1).size := by simp only [bs_append, bs_size, List.length_append]; omega
  have s2 : ¬ 9223372036854775807 < (bs P0 ++ bs P1).size + (bs P2).size := by simp only [bs_append, bs_size, List.length_append]; omega
  have ss2 : ¬ 9223372036854775807 < (bs P0).size + (bs P1).size + (bs P2).size := by simp only [bs_size]; omega
  have s3 : ¬ 9223372036854775807 < (bs P0 ++ bs P1 ++ bs P2).size + (bs P3).size := by simp only [bs_append, bs_size, List.length_append]; omega
  have ss3 : ¬ 9223372036854775807 < (bs P0).size + (bs P1).size + (bs P2).size + (bs P3).size := by simp only [bs_size]; omega
  have s4 : ¬ 9223372036854775807 < (bs P0 ++ bs P1 ++ bs P2 ++ bs P3).size + (bs P4).size := by simp only [bs_append, bs_size, List.length_append]; omega
  have ss4 : ¬ 9223372036854775807 < (bs P0).size + (bs P1).size + (bs P2).size + (bs P3).size + (bs P4).size := by simp only [bs_size]; omega
  have s5 : ¬ 9223372036854775807 < (bs P0 ++ bs P1 ++ bs P2 ++ bs P3 ++ bs P4).size + (bs P5).size := by simp only [bs_append, bs_size, List.length_append]; omega
  have ss5 : ¬ 9223372036854775807 < (bs P0).size + (bs P1).size + (bs P2).size + (bs P3).size + (bs P4).size + (bs P5).size := by simp only [bs_size]; omega
  have s6 : ¬ 9223372036854775807 < (bs P0 ++ bs P1 ++ bs P2 ++ bs P3 ++ bs P4 ++ bs P5).size + (bs P6).size := by simp only [bs_append, bs_size, List.length_append]; omega
  have ss6 : ¬ 9223372036854775807 < (bs P0).size + (bs P1).size + (bs P2).size + (bs P3).size + (bs P4).size + (bs P5).size + (bs P6).size := by simp only [bs_size]; omega
  obtain ⟨W, hW⟩ : ∃ X, X = w.alloc (.cells (rgV x).toArray 28) := ⟨_, rfl⟩
  have hB : Below w.heap.size w W := by rw [hW]; exact alloc_below w _
  have hb0 : BlkAt w.heap.size 28 (rgV x) W := by rw [hW]; exact BlkAt.alloc_new w _ _
  have m0 := BlkAt.cell hb0 (i := 0) rfl
  have m1 := BlkAt.cell hb0 (i := 1) rfl
  have m2 := BlkAt.cell hb0 (i := 2) rfl
  have m3 := BlkAt.cell hb0 (i := 3) rfl
  have m4 := BlkAt.cell hb0 (i := 4) rfl
  have m5 := BlkAt.cell hb0 (i := 5) rfl
  have m6 := BlkAt.cell hb0 (i := 6) rfl
  have HW := Lib.hid hW
  have HB := Lib.hid hB
  clear hW hB hb0
  unfold rgV at *
  go_enter Try.func48, Try.ntmps48
  go_upto_region 1 with (fail)
  rw [← HW.out]
  clear HW
  have hex := Grew.all W
  refine wp_region_grew (by kernel_rfl) (by kernel_rfl) ?_
  repeat (first | go_big_quiet_skip | (go_big_quiet_want; first | (refine quiet_load_cell _ _ rfl ⟨w.heap.size, 0, none⟩ rfl _ _ Try.underlying9 rfl (fun W hW => Grew.cell hW m0) ?_; simp only [Act.put, List.setIfInBounds_toArray, List.set_cons_succ, List.set_cons_zero]; go_big_quiet_on) | (refine quiet_load_cell _ _ rfl ⟨w.heap.size, 1, none⟩ rfl _ _ Try.underlying9 rfl (fun W hW => Grew.cell hW m1) ?_; simp only [Act.put, List.setIfInBounds_toArray, List.set_cons_succ, List.set_cons_zero]; go_big_quiet_on) | (refine quiet_load_cell _ _ rfl ⟨w.heap.size, 2, none⟩ rfl _ _ Try.underlying3 rfl (fun W hW => Grew.cell hW m2) ?_; simp only [Act.put, List.setIfInBounds_toArray, List.set_cons_succ, List.set_cons_zero]; go_big_quiet_on) | (refine quiet_load_cell _ _ rfl ⟨w.heap.size, 3, none⟩ rfl _ _ Try.underlying3 rfl (fun W hW => Grew.cell hW m3) ?_; simp only [Act.put, List.setIfInBounds_toArray, List.set_cons_succ, List.set_cons_zero]; go_big_quiet_on) | (refine quiet_load_cell _ _ rfl ⟨w.heap.size, 4, none⟩ rfl _ _ Try.underlying4 rfl (fun W hW => Grew.cell hW m4) ?_; simp only [Act.put, List.setIfInBounds_toArray, List.set_cons_succ, List.set_cons_zero]; go_big_quiet_on) | (refine quiet_load_cell _ _ rfl ⟨w.heap.size, 5, none⟩ rfl _ _ Try.underlying4 rfl (fun W hW => Grew.cell hW m5) ?_; simp only [Act.put, List.setIfInBounds_toArray, List.set_cons_succ, List.set_cons_zero]; go_big_quiet_on) | (refine quiet_load_cell _ _ rfl ⟨w.heap.size, 6, none⟩ rfl _ _ Try.underlying4 rfl (fun W hW => Grew.cell hW m6) ?_; simp only [Act.put, List.setIfInBounds_toArray, List.set_cons_succ, List.set_cons_zero]; go_big_quiet_on) | (go_big_quiet_op; first | go_big_quiet_on | (apply Exists.intro; refine ⟨fun W hW => ?_, ?_⟩; (first | exact rfl | (go_at_call 45; with_reducible exact Calls.grew hW (H0.out _)) | (go_at_call 45; with_reducible exact Calls.grew hW (H1.out _)) | (go_at_call 44; with_reducible exact Calls.grew hW (H2.out _)) | (go_at_call 44; with_reducible exact Calls.grew hW (H3.out _)) | (go_at_call 52; with_reducible exact Calls.grew hW (H4.out _)) | (go_at_call 52; with_reducible exact Calls.grew hW (H5.out _)) | (go_at_call 52; with_reducible exact Calls.grew hW (H6.out _))); go_big_quiet_on))))
  refine wpQuiet_nil ?_
  intro w3 hw3
  have hb3 : Below W.heap.size W w3 := hw3
  clear hex
  go_wp2
  go_ret
  exact ⟨by simp only [bs_append]; rfl, HB.out.trans (hb3.mono HB.out.size)⟩
set_option maxRecDepth 100000 in
set_option maxHeartbeats 2000000 in
theorem refread_any (c s : Int) (hc : i64 c) (hs : i64 s) (x : Rg) (hok : rgC.ok x) (hd : (readL c s x).length ≤ 140737488355328) (w : World) : Calls Try.prog 18 #[.int .i64 c, .int .i64 s, .agg (rgV x).toArray] w fun e w' => e = .returned (.string (bs (readL c s x))) ∧ Below w.heap.size w w' := by
  have he : readL c s x = numL c ++ (numL s ++ (numL 1 ++ rgC.enc x)) := rfl
  have hsum := hd
  rw [he] at hsum
  simp only [List.length_append] at hsum
  have H0 := Lib.hid (fun X => refnum21 (c) (hc) X)
  have H1 := Lib.hid (fun X => refnum21 (s) (hs) X)
  have H2 := Lib.hid (fun X => refnum21 (1) (by unfold i64; omega) X)
  have H3 := Lib.hid (fun X => refrang21 x (hok) (by omega) X)
  have HO : Hid (readL c s x = numL c ++ numL s ++ numL 1 ++ rgC.enc x) := Lib.hid (by rw [he]; simp only [List.append_assoc])
  rw [HO.out]
  clear HO he hok hd hc hs
  generalize numL c = P0 at *
  generalize numL s = P1 at *
  generalize numL 1 = P2 at *
  generalize rgC.enc x = P3 at *
  have s1 : ¬ 9223372036854775807 < (bs P0).size + (bs P1).size := by simp only [bs_append, bs_size, List.length_append]; omega
  have s2 : ¬ 9223372036854775807 < (bs P0 ++ bs P1).size + (bs P2).size := by simp only [bs_append, bs_size, List.length_append]; omega
  have ss2 : ¬ 9223372036854775807 < (bs P0).size + (bs P1).size + (bs P2).size := by simp only [bs_size]; omega
  have s3 : ¬ 9223372036854775807 < (bs P0 ++ bs P1 ++ bs P2).size + (bs P3).size := by simp only [bs_append, bs_size, List.length_append]; omega
  have ss3 : ¬ 9223372036854775807 < (bs P0).size + (bs P1).size + (bs P2).size + (bs P3).size := by simp only [bs_size]; omega
  obtain ⟨W, hW⟩ : ∃ X, X = w.alloc (.cells (rgV x).toArray 28) := ⟨_, rfl⟩
  have hB : Below w.heap.size w W := by rw [hW]; exact alloc_below w _
  have hb0 : BlkAt w.heap.size 28 (rgV x) W := by rw [hW]; exact BlkAt.alloc_new w _ _
  have HW := Lib.hid hW
  have HB := Lib.hid hB
  have HM := Lib.hid hb0
  clear hW hB hb0
  unfold rgV at *
  go_enter Try.func18, Try.ntmps18
  go_upto_region 1 with (fail)
  rw [← HW.out]
  clear HW
  have hex := Grew.all W
  refine wp_region_grew (by kernel_rfl) (by kernel_rfl) ?_
  repeat (first | go_big_quiet_skip | (go_big_quiet_want; first | (refine quiet_load_mid 28 _ rfl _ _ rfl [.string (bs x.key), .string (bs x.end_), .int .i64 x.rev, .int .i64 x.limit, .bool x.keys, .bool x.count, .bool x.desc] _ (fun W hW => (HM.out.grew hW).range 0 _ (fun j hj => by rw [Nat.zero_add])) Try.underlying28 rfl (by kernel_rfl) ?_; simp only [Act.put, List.setIfInBounds_toArray, List.set_cons_succ, List.set_cons_zero]; go_big_quiet_on) | (go_big_quiet_op; first | go_big_quiet_on | (apply Exists.intro; refine ⟨fun W hW => ?_, ?_⟩; (first | exact rfl | (go_at_call 44; with_reducible exact Calls.grew hW (H0.out _)) | (go_at_call 44; with_reducible exact Calls.grew hW (H1.out _)) | (go_at_call 44; with_reducible exact Calls.grew hW (H2.out _)) | (go_at_call 48; with_reducible exact Calls.grew hW (H3.out _))); go_big_quiet_on))))
  refine wpQuiet_nil ?_
  intro w3 hw3
  have hb3 : Below W.heap.size W w3 := hw3
  clear hex
  go_wp2
  go_ret
  exact ⟨by simp only [bs_append]; rfl, HB.out.trans (hb3.mono HB.out.size)⟩
set_option maxRecDepth 100000 in
set_option maxHeartbeats 2000000 in
theorem refops21 (L : List Opr) (a : Option Addr) (cap : Nat) (w : World) (hL : RowsAt 10 opV w (.slice a L.length cap) L) (hok : L.length ≤ 10000 ∧ ∀ x ∈ L, opC.ok x) (hd : (listL_ opC.enc L).length ≤ 140737488355328) :
    Calls Try.prog 46 #[.slice a L.length cap] w fun e w' => e = .returned (.string (bs (listL_ opC.enc L))) ∧ Below w.heap.size w w' := by
  have hok1 := hok.1
  have HOK := Lib.hid hok.2
  have HL := Lib.hid hL
  unfold listL_ at *
  rw [List.length_append] at hd
  have H0 := Lib.hid (fun X => refnum21 (L.length : Int) (by unfold i64; omega) X)
  clear hL hok
  go_enter Try.func46, Try.ntmps46
  go_wp2_with (go_at_call 44; (with_reducible refine (H0.out _).mono ?_); rintro e w1 ⟨rfl, hb1⟩; have HB1 := Lib.hid hb1; clear hb1)
  go_loopw [3, 4] (fun sv vi wr => ∃ (i : Nat), vi = .int .i64 i ∧ i ≤ L.length ∧ sv = .string (bs (numL (L.length : Int) ++ (L.take i).flatMap opC.enc)) ∧ Below w.heap.size w wr) (fun _ vi _ => L.length - (intOf vi).toNat)
  case atStart => exact ⟨0, rfl, by omega, by simp, HB1.out⟩
  case round =>
    obtain ⟨i, rfl, hi, rfl, hbr⟩ := hrel
    have HBR := Lib.hid hbr
    clear hbr HB1 H0
    by_cases h : i < L.length
    · as_aux_lemma =>
      have q0 : decide (i < L.length) = true := decide_eq_true h
      obtain ⟨bb, off, rfl, hc⟩ := (HL.out.grew HBR.out).get i h
      have c0 : wr.cell? ⟨bb, off + i * 10, none⟩ = some _ := hc 0 _ rfl
      have c1 : wr.cell? ⟨bb, off + i * 10 + 1, none⟩ = some _ := hc 1 _ rfl
      have c2 : wr.cell? ⟨bb, off + i * 10 + 2, none⟩ = some _ := hc 2 _ rfl
      have c3 : wr.cell? ⟨bb, off + i * 10 + 3, none⟩ = some _ := hc 3 _ rfl
      have c4 : wr.cell? ⟨bb, off + i * 10 + 4, none⟩ = some _ := hc 4 _ rfl
      have c5 : wr.cell? ⟨bb, off + i * 10 + 5, none⟩ = some _ := hc 5 _ rfl
      have c6 : wr.cell? ⟨bb, off + i * 10 + 6, none⟩ = some _ := hc 6 _ rfl
      have c7 : wr.cell? ⟨bb, off + i * 10 + 7, none⟩ = some _ := hc 7 _ rfl
      have c8 : wr.cell? ⟨bb, off + i * 10 + 8, none⟩ = some _ := hc 8 _ rfl
      have c9 : wr.cell? ⟨bb, off + i * 10 + 9, none⟩ = some _ := hc 9 _ rfl
      have hst := flat_take1 opC.enc L i h
      have hle := flat_take_le opC.enc L (i + 1)
      rw [hst, List.length_append] at hle
      have HSt : Hid (numL (L.length : Int) ++ (L.take (i + 1)).flatMap opC.enc = (numL (L.length : Int) ++ (L.take i).flatMap opC.enc) ++ opC.enc L[i]) := Lib.hid (by rw [hst, List.append_assoc])
      have hok := HOK.out L[i] (List.getElem_mem h)
      have hA : (numL (L.length : Int) ++ (L.take i).flatMap opC.enc).length + (opC.enc L[i]).length ≤ 140737488355328 := by rw [List.length_append]; omega
      generalize numL (L.length : Int) ++ (L.take i).flatMap opC.enc = A at *
      clear hst hle hc HOK
      generalize L[i] = x at *
      have he : opC.enc x = numL x.kind ++ (rgC.enc x.rg ++ (textL x.value ++ numL x.lease)) := rfl
      rw [he] at hA HSt
      simp only [List.length_append] at hA
      have ht : x.value.length ≤ (textL x.value).length := by unfold textL; rw [List.length_append]; omega
      have H0 := Lib.hid (fun X => refnum21 (x.kind) (hok.1) X)
      have H1 := Lib.hid (fun X => refrang21 x.rg (hok.2.1) (by omega) X)
      have H2 := Lib.hid (fun X => reftext21 x.value (by omega) X)
      have H3 := Lib.hid (fun X => refnum21 (x.lease) (hok.2.2.2) X)
      have HS2 : Hid (numL (L.length : Int) ++ (L.take (i + 1)).flatMap opC.enc = A ++ numL x.kind ++ rgC.enc x.rg ++ textL x.value ++ numL x.lease) := Lib.hid (by rw [HSt.out]; simp only [List.append_assoc])
      clear HSt he hok ht
      generalize numL x.kind = P0 at *
      generalize rgC.enc x.rg = P1 at *
      generalize textL x.value = P2 at *
      generalize numL x.lease = P3 at *
      have s1 : ¬ 9223372036854775807 < (bs A).size + (bs P0).size := by simp only [bs_append, bs_size, List.length_append]; omega
      have s2 : ¬ 9223372036854775807 < (bs A ++ bs P0).size + (bs P1).size := by simp only [bs_append, bs_size, List.length_append]; omega
      have ss2 : ¬ 9223372036854775807 < (bs A).size + (bs P0).size + (bs P1).size := by simp only [bs_size]; omega
      have s3 : ¬ 9223372036854775807 < (bs A ++ bs P0 ++ bs P1).size + (bs P2).size := by simp only [bs_append, bs_size, List.length_append]; omega
      have ss3 : ¬ 9223372036854775807 < (bs A).size + (bs P0).size + (bs P1).size + (bs P2).size := by simp only [bs_size]; omega
      have s4 : ¬ 9223372036854775807 < (bs A ++ bs P0 ++ bs P1 ++ bs P2).size + (bs P3).size := by simp only [bs_append, bs_size, List.length_append]; omega
      have ss4 : ¬ 9223372036854775807 < (bs A).size + (bs P0).size + (bs P1).size + (bs P2).size + (bs P3).size := by simp only [bs_size]; omega
      unfold opV rgV at *
      go_wp2_with (fail)
      have hex := Grew.all wr
      refine wp_region_grew (by kernel_rfl) (by kernel_rfl) ?_
      repeat (first | go_big_quiet_skip | (go_big_quiet_want; first | (refine quiet_load_cell _ _ rfl ⟨bb, off + i * 10, none⟩ rfl _ _ Try.underlying3 rfl (fun W hW => Grew.cell hW c0) ?_; simp only [Act.put, List.setIfInBounds_toArray, List.set_cons_succ, List.set_cons_zero]; go_big_quiet_on) | (refine quiet_load_cell _ _ rfl ⟨bb, off + i * 10 + 8, none⟩ rfl _ _ Try.underlying9 rfl (fun W hW => Grew.cell hW c8) ?_; simp only [Act.put, List.setIfInBounds_toArray, List.set_cons_succ, List.set_cons_zero]; go_big_quiet_on) | (refine quiet_load_cell _ _ rfl ⟨bb, off + i * 10 + 9, none⟩ rfl _ _ Try.underlying3 rfl (fun W hW => Grew.cell hW c9) ?_; simp only [Act.put, List.setIfInBounds_toArray, List.set_cons_succ, List.set_cons_zero]; go_big_quiet_on) | (refine quiet_load_mid 28 _ rfl bb (off + i * 10 + 1) rfl [.string (bs x.rg.key), .string (bs x.rg.end_), .int .i64 x.rg.rev, .int .i64 x.rg.limit, .bool x.rg.keys, .bool x.rg.count, .bool x.rg.desc] _ (fun W hW => range7 (Grew.cell hW c1) (Grew.cell hW c2) (Grew.cell hW c3) (Grew.cell hW c4) (Grew.cell hW c5) (Grew.cell hW c6) (Grew.cell hW c7)) Try.underlying28 rfl (by kernel_rfl) ?_; simp only [Act.put, List.setIfInBounds_toArray, List.set_cons_succ, List.set_cons_zero]; go_big_quiet_on) | (go_big_quiet_op; first | go_big_quiet_on | (apply Exists.intro; refine ⟨fun W hW => ?_, ?_⟩; (first | exact rfl | (go_at_call 44; with_reducible exact Calls.grew hW (H0.out _)) | (go_at_call 48; with_reducible exact Calls.grew hW (H1.out _)) | (go_at_call 45; with_reducible exact Calls.grew hW (H2.out _)) | (go_at_call 44; with_reducible exact Calls.grew hW (H3.out _))); go_big_quiet_on))))
      refine wpQuiet_nil ?_
      intro w3 hw3
      have HB3 := Lib.hid hw3
      clear hex hw3
      go_wp2
      go_roundw
      case rel => exact ⟨i + 1, by go_num, by omega, by rw [HS2.out]; simp only [bs_append], HBR.out.trans (Below.mono HB3.out HBR.out.size)⟩
      case measure => simp [intOf]; omega
    · as_aux_lemma =>
      have q0 : decide (i < L.length) = false := decide_eq_false h
      have hE : numL (L.length : Int) ++ (L.take i).flatMap opC.enc = numL (L.length : Int) ++ L.flatMap opC.enc := by rw [List.take_of_length_le (by omega)]
      rw [hE]
      go_wp2
      go_ret
      exact ⟨rfl, HBR.out⟩
set_option maxRecDepth 100000 in
set_option maxHeartbeats 2000000 in
theorem refask_any (c s : Int) (hc : i64 c) (hs : i64 s) (x : Req) (hok : rqC.ok x) (s1 s2 s3 : Value) (hd : (askL c s x).length ≤ 140737488355328) (w : World) (h : RqAt w x s1 s2 s3) :
    Calls Try.prog 16 #[.int .i64 c, .int .i64 s, .agg (rqV x s1 s2 s3).toArray] w fun e w' => e = .returned (.string (bs (askL c s x))) ∧ Below w.heap.size w w' := by
  obtain ⟨a1, q1, rfl⟩ := h.h1.form
  obtain ⟨a2, q2, rfl⟩ := h.h2.form
  obtain ⟨a3, q3, rfl⟩ := h.h3.form
  have he : askL c s x = (numL c ++ numL s ++ numL 0 ++ numL x.kind ++ numL (x.cmp.length : Int)) ++ x.cmp.flatMap cpC.enc ++ (listL_ opC.enc x.thn ++ (listL_ opC.enc x.els ++ (numL x.rev ++ (numL x.lease ++ numL x.ticks)))) := by
    show numL c ++ (numL s ++ (numL 0 ++ (numL x.kind ++ ((numL (x.cmp.length : Int) ++ x.cmp.flatMap cpC.enc) ++ (listL_ opC.enc x.thn ++ (listL_ opC.enc x.els ++ (numL x.rev ++ (numL x.lease ++ numL x.ticks)))))))) = _
    simp only [List.append_assoc]
  have hsum := hd
  rw [he] at hsum
  simp only [List.length_append] at hsum
  have H0 := Lib.hid (fun X => refnum21 (c) (hc) X)
  have H1 := Lib.hid (fun X => refnum21 (s) (hs) X)
  have H2 := Lib.hid (fun X => refnum21 (0) (by unfold i64; omega) X)
  have H3 := Lib.hid (fun X => refnum21 (x.kind) (hok.1) X)
  have H4 := Lib.hid (fun X => refnum21 ((x.cmp.length : Int)) (by have : x.cmp.length ≤ 10000 := hok.2.1.1; unfold i64; omega) X)
  obtain ⟨W, hW⟩ : ∃ X, X = w.alloc (.cells (rqV x (.slice a1 x.cmp.length q1) (.slice a2 x.thn.length q2) (.slice a3 x.els.length q3)).toArray 26) := ⟨_, rfl⟩
  have hB : Below w.heap.size w W := by rw [hW]; exact alloc_below w _
  have hb0 : BlkAt w.heap.size 26 (rqV x (.slice a1 x.cmp.length q1) (.slice a2 x.thn.length q2) (.slice a3 x.els.length q3)) W := by rw [hW]; exact BlkAt.alloc_new w _ _
  have hh := h.grew hB
  have G0 := Lib.hid (fun X (hX : Grew W X) => refops21 x.thn a2 q2 X (hh.h2.grew hX) hok.2.2.1 (by omega))
  have G1 := Lib.hid (fun X (hX : Grew W X) => refops21 x.els a3 q3 X (hh.h3.grew hX) hok.2.2.2.1 (by omega))
  have G2 := Lib.hid (fun X => refnum21 (x.rev) (hok.2.2.2.2.1) X)
  have G3 := Lib.hid (fun X => refnum21 (x.lease) (hok.2.2.2.2.2.1) X)
  have G4 := Lib.hid (fun X => refnum21 (x.ticks) (hok.2.2.2.2.2.2) X)
  have HOKC := Lib.hid hok.2.1.2
  have hn1 : x.cmp.length ≤ 10000 := hok.2.1.1
  have HR1 := Lib.hid hh.h1
  have HM := Lib.hid hb0
  have HW := Lib.hid hW
  have HB := Lib.hid hB
  have m0 := BlkAt.cell hb0 (i := 0) rfl
  have m1 := BlkAt.cell hb0 (i := 1) rfl
  have HE : Hid (askL c s x = (numL c ++ numL s ++ numL 0 ++ numL x.kind ++ numL (x.cmp.length : Int)) ++ x.cmp.flatMap cpC.enc ++ listL_ opC.enc x.thn ++ listL_ opC.enc x.els ++ numL x.rev ++ numL x.lease ++ numL x.ticks) := Lib.hid (by rw [he]; simp only [List.append_assoc])
  have hSA : (numL c ++ numL s ++ numL 0 ++ numL x.kind ++ numL (x.cmp.length : Int)).length + (x.cmp.flatMap cpC.enc).length + (listL_ opC.enc x.thn).length + (listL_ opC.enc x.els).length + (numL x.rev).length + (numL x.lease).length + (numL x.ticks).length ≤ 140737488355328 := by simp only [List.length_append]; omega
  rw [HE.out]
  generalize hRR : (numL c ++ numL s ++ numL 0 ++ numL x.kind ++ numL (x.cmp.length : Int)) ++ x.cmp.flatMap cpC.enc ++ listL_ opC.enc x.thn ++ listL_ opC.enc x.els ++ numL x.rev ++ numL x.lease ++ numL x.ticks = RR
  have HRR := Lib.hid hRR
  clear hRR HE he hok hd hc hs h hh hb0 hW hB
  have hsumB := hSA
  clear hsum
  have HSA := Lib.hid hSA
  clear hSA hsumB
  have hsum : (numL c).length + (numL s).length + (numL 0).length + (numL x.kind).length + (numL (x.cmp.length : Int)).length ≤ 140737488355328 := by have := HSA.out; simp only [List.length_append] at this; omega
  generalize numL c = P0 at *
  generalize numL s = P1 at *
  generalize numL 0 = P2 at *
  generalize numL x.kind = P3 at *
  generalize numL ((x.cmp.length : Int)) = P4 at *
  have s1 : ¬ 9223372036854775807 < (bs P0).size + (bs P1).size := by simp only [bs_append, bs_size, List.length_append]; omega
  have s2 : ¬ 9223372036854775807 < (bs P0 ++ bs P1).size + (bs P2).size := by simp only [bs_append, bs_size, List.length_append]; omega
  have ss2 : ¬ 9223372036854775807 < (bs P0).size + (bs P1).size + (bs P2).size := by simp only [bs_size]; omega
  have s3 : ¬ 9223372036854775807 < (bs P0 ++ bs P1 ++ bs P2).size + (bs P3).size := by simp only [bs_append, bs_size, List.length_append]; omega
  have ss3 : ¬ 9223372036854775807 < (bs P0).size + (bs P1).size + (bs P2).size + (bs P3).size := by simp only [bs_size]; omega
  have s4 : ¬ 9223372036854775807 < (bs P0 ++ bs P1 ++ bs P2 ++ bs P3).size + (bs P4).size := by simp only [bs_append, bs_size, List.length_append]; omega
  have ss4 : ¬ 9223372036854775807 < (bs P0).size + (bs P1).size + (bs P2).size + (bs P3).size + (bs P4).size := by simp only [bs_size]; omega
  unfold rqV at *
  go_enter Try.func16, Try.ntmps16
  go_upto_region 1 with (fail)
  rw [← HW.out]
  clear HW
  have hex := Grew.all W
  refine wp_region_grew (by kernel_rfl) (by kernel_rfl) ?_
  repeat (first | go_big_quiet_skip | (go_big_quiet_want; first | (refine quiet_load_cell _ _ rfl ⟨w.heap.size, 0, none⟩ rfl _ _ Try.underlying3 rfl (fun W hW => Grew.cell hW m0) ?_; simp only [Act.put, List.setIfInBounds_toArray, List.set_cons_succ, List.set_cons_zero]; go_big_quiet_on) | (refine quiet_load_cell _ _ rfl ⟨w.heap.size, 1, none⟩ rfl _ _ Try.underlying23 rfl (fun W hW => Grew.cell hW m1) ?_; simp only [Act.put, List.setIfInBounds_toArray, List.set_cons_succ, List.set_cons_zero]; go_big_quiet_on) | (go_big_quiet_op; first | go_big_quiet_on | (apply Exists.intro; refine ⟨fun W hW => ?_, ?_⟩; (first | exact rfl | (go_at_call 44; with_reducible exact Calls.grew hW (H0.out _)) | (go_at_call 44; with_reducible exact Calls.grew hW (H1.out _)) | (go_at_call 44; with_reducible exact Calls.grew hW (H2.out _)) | (go_at_call 44; with_reducible exact Calls.grew hW (H3.out _)) | (go_at_call 44; with_reducible exact Calls.grew hW (H4.out _))); go_big_quiet_on))))
  refine wpQuiet_nil ?_
  intro w3 hw3
  have HB3 := Lib.hid hw3
  clear hex hw3 m0 m1 H0 H1 H2 H3 H4 s1 s2 s3 s4 ss2 ss3 ss4 hsum
  simp only [bs_append]
  have hAlen : (P0 ++ P1 ++ P2 ++ P3 ++ P4).length + (x.cmp.flatMap cpC.enc).length ≤ 140737488355328 := by have := HSA.out; omega
  generalize P0 ++ P1 ++ P2 ++ P3 ++ P4 = A at *
  go_wp2_with (fail)
  go_loopw [7, 8] (fun sv vi wr => ∃ (i : Nat), vi = .int .i64 i ∧ i ≤ x.cmp.length ∧ sv = .string (bs (A ++ (x.cmp.take i).flatMap cpC.enc)) ∧ Grew W wr) (fun _ vi _ => x.cmp.length - (intOf vi).toNat)
  case atStart => exact ⟨0, rfl, by omega, by simp, HB3.out⟩
  case round =>
    obtain ⟨i, rfl, hi, rfl, hbr⟩ := hrel
    have HBR := Lib.hid hbr
    have hMw := HM.out.grew hbr
    have m1 := BlkAt.cell hMw (i := 1) rfl
    clear hbr HB3
    by_cases h : i < x.cmp.length
    · as_aux_lemma =>
      have q0 : decide (i < x.cmp.length) = true := decide_eq_true h
      obtain ⟨bb, off, rfl, hcc⟩ := (HR1.out.grew HBR.out).get i h
      have c0 : wr.cell? ⟨bb, off + i * 5, none⟩ = some _ := hcc 0 _ rfl
      have c1 : wr.cell? ⟨bb, off + i * 5 + 1, none⟩ = some _ := hcc 1 _ rfl
      have c2 : wr.cell? ⟨bb, off + i * 5 + 2, none⟩ = some _ := hcc 2 _ rfl
      have c3 : wr.cell? ⟨bb, off + i * 5 + 3, none⟩ = some _ := hcc 3 _ rfl
      have c4 : wr.cell? ⟨bb, off + i * 5 + 4, none⟩ = some _ := hcc 4 _ rfl
      have hst := flat_take1 cpC.enc x.cmp i h
      have hle := flat_take_le cpC.enc x.cmp (i + 1)
      rw [hst, List.length_append] at hle
      have HSt : Hid (A ++ (x.cmp.take (i + 1)).flatMap cpC.enc = (A ++ (x.cmp.take i).flatMap cpC.enc) ++ cpC.enc x.cmp[i]) := Lib.hid (by rw [hst, List.append_assoc])
      have hoky := HOKC.out x.cmp[i] (List.getElem_mem h)
      have hA : (A ++ (x.cmp.take i).flatMap cpC.enc).length + (cpC.enc x.cmp[i]).length ≤ 140737488355328 := by rw [List.length_append]; omega
      clear hst hle hcc HOKC hMw hAlen G0 G1 G2 G3 G4
      generalize hI : A ++ (x.cmp.take i).flatMap cpC.enc = I at *
      clear hI
      generalize x.cmp[i] = y at *
      have he : cpC.enc y = textL y.key ++ (numL y.what ++ (numL y.how ++ (numL y.number ++ textL y.value))) := rfl
      rw [he] at hA HSt
      simp only [List.length_append] at hA
      have ht : y.key.length ≤ (textL y.key).length := by unfold textL; rw [List.length_append]; omega
      have ht2 : y.value.length ≤ (textL y.value).length := by unfold textL; rw [List.length_append]; omega
      have H0 := Lib.hid (fun X => reftext21 y.key (by omega) X)
      have H1 := Lib.hid (fun X => refnum21 (y.what) (hoky.2.1) X)
      have H2 := Lib.hid (fun X => refnum21 (y.how) (hoky.2.2.1) X)
      have H3 := Lib.hid (fun X => refnum21 (y.number) (hoky.2.2.2.1) X)
      have H4 := Lib.hid (fun X => reftext21 y.value (by omega) X)
      have HS2 : Hid (A ++ (x.cmp.take (i + 1)).flatMap cpC.enc = I ++ textL y.key ++ numL y.what ++ numL y.how ++ numL y.number ++ textL y.value) := Lib.hid (by rw [HSt.out]; simp only [List.append_assoc])
      clear HSt he hoky ht ht2
      generalize textL y.key = Q0 at *
      generalize numL y.what = Q1 at *
      generalize numL y.how = Q2 at *
      generalize numL y.number = Q3 at *
      generalize textL y.value = Q4 at *
      have s1 : ¬ 9223372036854775807 < (bs I).size + (bs Q0).size := by simp only [bs_append, bs_size, List.length_append]; omega
      have s2 : ¬ 9223372036854775807 < (bs I ++ bs Q0).size + (bs Q1).size := by simp only [bs_append, bs_size, List.length_append]; omega
      have ss2 : ¬ 9223372036854775807 < (bs I).size + (bs Q0).size + (bs Q1).size := by simp only [bs_size]; omega
      have s3 : ¬ 9223372036854775807 < (bs I ++ bs Q0 ++ bs Q1).size + (bs Q2).size := by simp only [bs_append, bs_size, List.length_append]; omega
      have ss3 : ¬ 9223372036854775807 < (bs I).size + (bs Q0).size + (bs Q1).size + (bs Q2).size := by simp only [bs_size]; omega
      have s4 : ¬ 9223372036854775807 < (bs I ++ bs Q0 ++ bs Q1 ++ bs Q2).size + (bs Q3).size := by simp only [bs_append, bs_size, List.length_append]; omega
      have ss4 : ¬ 9223372036854775807 < (bs I).size + (bs Q0).size + (bs Q1).size + (bs Q2).size + (bs Q3).size := by simp only [bs_size]; omega
      have s5 : ¬ 9223372036854775807 < (bs I ++ bs Q0 ++ bs Q1 ++ bs Q2 ++ bs Q3).size + (bs Q4).size := by simp only [bs_append, bs_size, List.length_append]; omega
      have ss5 : ¬ 9223372036854775807 < (bs I).size + (bs Q0).size + (bs Q1).size + (bs Q2).size + (bs Q3).size + (bs Q4).size := by simp only [bs_size]; omega
      unfold cpV at *
      obtain ⟨V, hW⟩ : ∃ X, X = wr.alloc (.cells ([.string (bs y.key), .int .i64 y.what, .int .i64 y.how, .int .i64 y.number, .string (bs y.value)]).toArray 75) := ⟨_, rfl⟩
      have hB : Below wr.heap.size wr V := by rw [hW]; exact alloc_below wr _
      have hb0 : BlkAt wr.heap.size 75 ([.string (bs y.key), .int .i64 y.what, .int .i64 y.how, .int .i64 y.number, .string (bs y.value)]) V := by rw [hW]; exact BlkAt.alloc_new wr _ _
      have HV := Lib.hid hW
      have HBV := Lib.hid (HBR.out.step hB)
      have d0 := BlkAt.cell hb0 (i := 0) rfl
      have d1 := BlkAt.cell hb0 (i := 1) rfl
      have d2 := BlkAt.cell hb0 (i := 2) rfl
      have d3 := BlkAt.cell hb0 (i := 3) rfl
      have d4 := BlkAt.cell hb0 (i := 4) rfl
      clear hW hB hb0
      go_wp2_with (fail)
      rw [← HV.out]
      clear HV
      have hex := Grew.all V
      refine wp_region_grew (by kernel_rfl) (by kernel_rfl) ?_
      repeat (first | go_big_quiet_skip | (go_big_quiet_want; first | (refine quiet_load_cell _ _ rfl ⟨wr.heap.size, 0, none⟩ rfl _ _ Try.underlying9 rfl (fun W hW => Grew.cell hW d0) ?_; simp only [Act.put, List.setIfInBounds_toArray, List.set_cons_succ, List.set_cons_zero]; go_big_quiet_on) | (refine quiet_load_cell _ _ rfl ⟨wr.heap.size, 1, none⟩ rfl _ _ Try.underlying3 rfl (fun W hW => Grew.cell hW d1) ?_; simp only [Act.put, List.setIfInBounds_toArray, List.set_cons_succ, List.set_cons_zero]; go_big_quiet_on) | (refine quiet_load_cell _ _ rfl ⟨wr.heap.size, 2, none⟩ rfl _ _ Try.underlying3 rfl (fun W hW => Grew.cell hW d2) ?_; simp only [Act.put, List.setIfInBounds_toArray, List.set_cons_succ, List.set_cons_zero]; go_big_quiet_on) | (refine quiet_load_cell _ _ rfl ⟨wr.heap.size, 3, none⟩ rfl _ _ Try.underlying3 rfl (fun W hW => Grew.cell hW d3) ?_; simp only [Act.put, List.setIfInBounds_toArray, List.set_cons_succ, List.set_cons_zero]; go_big_quiet_on) | (refine quiet_load_cell _ _ rfl ⟨wr.heap.size, 4, none⟩ rfl _ _ Try.underlying9 rfl (fun W hW => Grew.cell hW d4) ?_; simp only [Act.put, List.setIfInBounds_toArray, List.set_cons_succ, List.set_cons_zero]; go_big_quiet_on) | (go_big_quiet_op; first | go_big_quiet_on | (apply Exists.intro; refine ⟨fun W hW => ?_, ?_⟩; (first | exact rfl | (go_at_call 45; with_reducible exact Calls.grew hW (H0.out _)) | (go_at_call 44; with_reducible exact Calls.grew hW (H1.out _)) | (go_at_call 44; with_reducible exact Calls.grew hW (H2.out _)) | (go_at_call 44; with_reducible exact Calls.grew hW (H3.out _)) | (go_at_call 45; with_reducible exact Calls.grew hW (H4.out _))); go_big_quiet_on))))
      refine wpQuiet_nil ?_
      intro w4 hw4
      have HB4 := Lib.hid (HBV.out.trans hw4)
      clear hex hw4
      go_wp2
      go_roundw
      case rel => exact ⟨i + 1, by go_num, by omega, by rw [HS2.out]; simp only [bs_append], HB4.out⟩
      case measure => simp [intOf]; omega
    · as_aux_lemma =>
      have q0 : decide (i < x.cmp.length) = false := decide_eq_false h
      have hE : A ++ (x.cmp.take i).flatMap cpC.enc = A ++ x.cmp.flatMap cpC.enc := by rw [List.take_of_length_le (by omega)]
      rw [hE]
      have hSA := HSA.out
      have hF : (A ++ x.cmp.flatMap cpC.enc).length = A.length + (x.cmp.flatMap cpC.enc).length := List.length_append
      clear HSA hE hAlen
      have m2 := BlkAt.cell hMw (i := 2) rfl
      have m3 := BlkAt.cell hMw (i := 3) rfl
      have m4 := BlkAt.cell hMw (i := 4) rfl
      have m5 := BlkAt.cell hMw (i := 5) rfl
      have m6 := BlkAt.cell hMw (i := 6) rfl
      have K0 := Lib.hid (fun X (hX : Grew wr X) => G0.out X (HBR.out.trans hX))
      have K1 := Lib.hid (fun X (hX : Grew wr X) => G1.out X (HBR.out.trans hX))
      clear G0 G1 hMw
      generalize A ++ x.cmp.flatMap cpC.enc = I at *
      have hsum : I.length + (listL_ opC.enc x.thn).length + (listL_ opC.enc x.els).length + (numL x.rev).length + (numL x.lease).length + (numL x.ticks).length ≤ 140737488355328 := by omega
      clear hSA hF
      generalize listL_ opC.enc x.thn = Q0 at *
      generalize listL_ opC.enc x.els = Q1 at *
      generalize numL x.rev = Q2 at *
      generalize numL x.lease = Q3 at *
      generalize numL x.ticks = Q4 at *
      have s1 : ¬ 9223372036854775807 < (bs I).size + (bs Q0).size := by simp only [bs_append, bs_size, List.length_append]; omega
      have s2 : ¬ 9223372036854775807 < (bs I ++ bs Q0).size + (bs Q1).size := by simp only [bs_append, bs_size, List.length_append]; omega
      have ss2 : ¬ 9223372036854775807 < (bs I).size + (bs Q0).size + (bs Q1).size := by simp only [bs_size]; omega
      have s3 : ¬ 9223372036854775807 < (bs I ++ bs Q0 ++ bs Q1).size + (bs Q2).size := by simp only [bs_append, bs_size, List.length_append]; omega
      have ss3 : ¬ 9223372036854775807 < (bs I).size + (bs Q0).size + (bs Q1).size + (bs Q2).size := by simp only [bs_size]; omega
      have s4 : ¬ 9223372036854775807 < (bs I ++ bs Q0 ++ bs Q1 ++ bs Q2).size + (bs Q3).size := by simp only [bs_append, bs_size, List.length_append]; omega
      have ss4 : ¬ 9223372036854775807 < (bs I).size + (bs Q0).size + (bs Q1).size + (bs Q2).size + (bs Q3).size := by simp only [bs_size]; omega
      have s5 : ¬ 9223372036854775807 < (bs I ++ bs Q0 ++ bs Q1 ++ bs Q2 ++ bs Q3).size + (bs Q4).size := by simp only [bs_append, bs_size, List.length_append]; omega
      have ss5 : ¬ 9223372036854775807 < (bs I).size + (bs Q0).size + (bs Q1).size + (bs Q2).size + (bs Q3).size + (bs Q4).size := by simp only [bs_size]; omega
      clear hsum
      go_wp2_with (fail)
      have hex := Grew.all wr
      refine wp_region_grew (by kernel_rfl) (by kernel_rfl) ?_
      repeat (first | go_big_quiet_skip | (go_big_quiet_want; first | (refine quiet_load_cell _ _ rfl ⟨w.heap.size, 2, none⟩ rfl _ _ Try.underlying24 rfl (fun W hW => Grew.cell hW m2) ?_; simp only [Act.put, List.setIfInBounds_toArray, List.set_cons_succ, List.set_cons_zero]; go_big_quiet_on) | (refine quiet_load_cell _ _ rfl ⟨w.heap.size, 3, none⟩ rfl _ _ Try.underlying24 rfl (fun W hW => Grew.cell hW m3) ?_; simp only [Act.put, List.setIfInBounds_toArray, List.set_cons_succ, List.set_cons_zero]; go_big_quiet_on) | (refine quiet_load_cell _ _ rfl ⟨w.heap.size, 4, none⟩ rfl _ _ Try.underlying3 rfl (fun W hW => Grew.cell hW m4) ?_; simp only [Act.put, List.setIfInBounds_toArray, List.set_cons_succ, List.set_cons_zero]; go_big_quiet_on) | (refine quiet_load_cell _ _ rfl ⟨w.heap.size, 5, none⟩ rfl _ _ Try.underlying3 rfl (fun W hW => Grew.cell hW m5) ?_; simp only [Act.put, List.setIfInBounds_toArray, List.set_cons_succ, List.set_cons_zero]; go_big_quiet_on) | (refine quiet_load_cell _ _ rfl ⟨w.heap.size, 6, none⟩ rfl _ _ Try.underlying3 rfl (fun W hW => Grew.cell hW m6) ?_; simp only [Act.put, List.setIfInBounds_toArray, List.set_cons_succ, List.set_cons_zero]; go_big_quiet_on) | (go_big_quiet_op; first | go_big_quiet_on | (apply Exists.intro; refine ⟨fun W hW => ?_, ?_⟩; (first | exact rfl | (go_at_call 46; with_reducible exact Calls.grew hW (K0.out _ hW)) | (go_at_call 46; with_reducible exact Calls.grew hW (K1.out _ hW)) | (go_at_call 44; with_reducible exact Calls.grew hW (G2.out _)) | (go_at_call 44; with_reducible exact Calls.grew hW (G3.out _)) | (go_at_call 44; with_reducible exact Calls.grew hW (G4.out _))); go_big_quiet_on))))
      refine wpQuiet_nil ?_
      intro w4 hw4
      have HB4 := Lib.hid (HBR.out.trans hw4)
      clear hex hw4
      go_wp2
      go_ret
      exact ⟨by rw [← HRR.out]; simp only [bs_append]; rfl, HB.out.trans (Below.mono HB4.out HB.out.size)⟩
end Go.Proofs.Ytlcblkmmkphpmaa
