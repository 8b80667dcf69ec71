/- The reference's Answer. Printed by gen/genTalS.py. Conditions: as each theorem says. -/
import Derived.Test.YtlcblkmmkphpmaaTalR
namespace Go.Proofs.Ytlcblkmmkphpmaa
open Go.RowKit

set_option maxRecDepth 100000 in
set_option maxHeartbeats 4000000 in
theorem refanswer_any (x : Res) (hok : rsC.ok x) (v : Value) (L : List (Ans × Value)) (hd : (rsC.enc x).length ≤ 140737488355328) (w : World) (h : RsAt w x v L) :
    Calls Try.prog 21 #[.agg (rsV x v).toArray] w fun e w' => e = .returned (.string (bs (rsC.enc x))) ∧ Below w.heap.size w w' := by
  obtain ⟨a1, q1, rfl⟩ := h.h1.form
  have hokL : L.length ≤ 10000 ∧ ∀ p ∈ L, anC.ok p.1 := by
    have h1 : x.ans.length ≤ 10000 ∧ ∀ y ∈ x.ans, anC.ok y := hok.2.2.2.1
    rw [h.hL, List.length_map] at h1
    exact ⟨h1.1, fun p hp => h1.2 _ (List.mem_map_of_mem hp)⟩
  have hn1 := hokL.1
  have he : rsC.enc x = (numL x.err ++ numL x.rev ++ flagC.enc x.thn ++ numL (L.length : Int)) ++ L.flatMap (fun p : Ans × Value => anC.enc p.1) ++ numL x.ticks := by
    have hla : listL_ anC.enc x.ans = numL (L.length : Int) ++ L.flatMap (fun p : Ans × Value => anC.enc p.1) := by unfold listL_; rw [h.hL, List.length_map, List.flatMap_map]
    show numL x.err ++ (numL x.rev ++ (flagC.enc x.thn ++ (listL_ anC.enc x.ans ++ numL x.ticks))) = _
    rw [hla]
    simp only [List.append_assoc]
  have hsum := hd
  rw [he] at hsum
  simp only [List.length_append] at hsum
  have H0 := Lib.hid (fun X => refnum21 (x.err) (hok.1) X)
  have H1 := Lib.hid (fun X => refnum21 (x.rev) (hok.2.1) X)
  have H2 := Lib.hid (fun X => refflag21 x.thn X)
  have H3 := Lib.hid (fun X => refnum21 ((L.length : Int)) (by unfold i64; omega) X)
  obtain ⟨W, hW⟩ : ∃ X, X = w.alloc (.cells (rsV x (.slice a1 L.length q1)).toArray 48) := ⟨_, rfl⟩
  have hB : Below w.heap.size w W := by rw [hW]; exact alloc_below w _
  have hb0 : BlkAt w.heap.size 48 (rsV x (.slice a1 L.length q1)) W := by rw [hW]; exact BlkAt.alloc_new w _ _
  have hh := h.grew hB
  have G0 := Lib.hid (fun X => refnum21 x.ticks hok.2.2.2.2 X)
  have HOKL := Lib.hid hokL.2
  have HR1 := Lib.hid hh.h1
  have HR2 := Lib.hid hh.h2
  have HM := Lib.hid hb0
  have HW := Lib.hid hW
  have HB := Lib.hid hB
  have m0 := BlkAt.cell hb0 (i := 0) rfl
  have m1 := BlkAt.cell hb0 (i := 1) rfl
  have m2 := BlkAt.cell hb0 (i := 2) rfl
  have m3 := BlkAt.cell hb0 (i := 3) rfl
  rw [he]
  generalize hRR : (numL x.err ++ numL x.rev ++ flagC.enc x.thn ++ numL (L.length : Int)) ++ L.flatMap (fun p : Ans × Value => anC.enc p.1) ++ numL x.ticks = RR
  have HRR := Lib.hid hRR
  have hSA : (numL x.err ++ numL x.rev ++ flagC.enc x.thn ++ numL (L.length : Int)).length + (L.flatMap (fun p : Ans × Value => anC.enc p.1)).length + (numL x.ticks).length ≤ 140737488355328 := by simp only [List.length_append]; omega
  have HSA := Lib.hid hSA
  clear hRR hSA he hok hokL hd h hh hb0 hW hB hsum
  have hsum : (numL x.err).length + (numL x.rev).length + (flagC.enc x.thn).length + (numL (L.length : Int)).length ≤ 140737488355328 := by have := HSA.out; simp only [List.length_append] at this; omega
  generalize numL x.err = P0 at *
  generalize numL x.rev = P1 at *
  generalize flagC.enc x.thn = P2 at *
  generalize numL ((L.length : Int)) = P3 at *
  have s1 : ¬ 9223372036854775807 < (bs P0).size + (bs P1).size := by simp only [bs_append, bs_size, List.length_append]; omega
  have s2 : ¬ 9223372036854775807 < (bs P0 ++ bs P1).size + (bs P2).size := by simp only [bs_append, bs_size, List.length_append]; omega
  have ss2 : ¬ 9223372036854775807 < (bs P0).size + (bs P1).size + (bs P2).size := by simp only [bs_size]; omega
  have s3 : ¬ 9223372036854775807 < (bs P0 ++ bs P1 ++ bs P2).size + (bs P3).size := by simp only [bs_append, bs_size, List.length_append]; omega
  have ss3 : ¬ 9223372036854775807 < (bs P0).size + (bs P1).size + (bs P2).size + (bs P3).size := by simp only [bs_size]; omega
  unfold rsV at *
  go_enter Try.func21, Try.ntmps21
  go_upto_region 1 with (fail)
  rw [← HW.out]
  clear HW
  have hex := Grew.all W
  refine wp_region_grew (by kernel_rfl) (by kernel_rfl) ?_
  repeat (first | go_big_quiet_skip | (go_big_quiet_want; first | (refine quiet_load_cell _ _ rfl ⟨w.heap.size, 0, none⟩ rfl _ _ Try.underlying31 rfl (fun W hW => Grew.cell hW m0) ?_; simp only [Act.put, List.setIfInBounds_toArray, List.set_cons_succ, List.set_cons_zero]; go_big_quiet_on) | (refine quiet_load_cell _ _ rfl ⟨w.heap.size, 1, none⟩ rfl _ _ Try.underlying3 rfl (fun W hW => Grew.cell hW m1) ?_; simp only [Act.put, List.setIfInBounds_toArray, List.set_cons_succ, List.set_cons_zero]; go_big_quiet_on) | (refine quiet_load_cell _ _ rfl ⟨w.heap.size, 2, none⟩ rfl _ _ Try.underlying4 rfl (fun W hW => Grew.cell hW m2) ?_; simp only [Act.put, List.setIfInBounds_toArray, List.set_cons_succ, List.set_cons_zero]; go_big_quiet_on) | (refine quiet_load_cell _ _ rfl ⟨w.heap.size, 3, none⟩ rfl _ _ Try.underlying46 rfl (fun W hW => Grew.cell hW m3) ?_; simp only [Act.put, List.setIfInBounds_toArray, List.set_cons_succ, List.set_cons_zero]; go_big_quiet_on) | (go_big_quiet_op; first | go_big_quiet_on | (apply Exists.intro; refine ⟨fun W hW => ?_, ?_⟩; (first | exact rfl | (go_at_call 44; with_reducible exact Calls.grew hW (H0.out _)) | (go_at_call 44; with_reducible exact Calls.grew hW (H1.out _)) | (go_at_call 52; with_reducible exact Calls.grew hW (H2.out _)) | (go_at_call 44; with_reducible exact Calls.grew hW (H3.out _))); go_big_quiet_on))))
  refine wpQuiet_nil ?_
  intro w3 hw3
  have HB3 := Lib.hid hw3
  clear hex hw3 m0 m1 m2 m3 H0 H1 H2 H3 s1 s2 s3 ss2 ss3 hsum
  simp only [bs_append]
  have hAlen : (P0 ++ P1 ++ P2 ++ P3).length + (L.flatMap (fun p : Ans × Value => anC.enc p.1)).length ≤ 140737488355328 := by have := HSA.out; omega
  generalize P0 ++ P1 ++ P2 ++ P3 = A at *
  go_wp2_with (fail)
  go_loopw [3, 4] (fun sv vi wr => ∃ (i : Nat), vi = .int .i64 i ∧ i ≤ L.length ∧ sv = .string (bs (A ++ (L.take i).flatMap (fun p : Ans × Value => anC.enc p.1))) ∧ Grew W wr) (fun _ vi _ => L.length - (intOf vi).toNat)
  case atStart => exact ⟨0, rfl, by omega, by simp, HB3.out⟩
  case round =>
    obtain ⟨i, rfl, hi, rfl, hbr⟩ := hrel
    obtain ⟨WO, rfl⟩ : ∃ O, O = wr := ⟨_, rfl⟩
    have HBR := Lib.hid hbr
    have hMw := HM.out.grew hbr
    have m3 := BlkAt.cell hMw (i := 3) rfl
    clear hbr HB3
    by_cases h : i < L.length
    · as_aux_lemma =>
      have q0 : decide (i < L.length) = true := decide_eq_true h
      obtain ⟨bb, off, rfl, hcc⟩ := (HR1.out.grew HBR.out).get i h
      have c0 : WO.cell? ⟨bb, off + i * 4, none⟩ = some _ := hcc 0 _ rfl
      have c1 : WO.cell? ⟨bb, off + i * 4 + 1, none⟩ = some _ := hcc 1 _ rfl
      have c2 : WO.cell? ⟨bb, off + i * 4 + 2, none⟩ = some _ := hcc 2 _ rfl
      have c3 : WO.cell? ⟨bb, off + i * 4 + 3, none⟩ = some _ := hcc 3 _ rfl
      have hst := flat_take1 (fun p : Ans × Value => anC.enc p.1) L i h
      have hle := flat_take_le (fun p : Ans × Value => anC.enc p.1) L (i + 1)
      rw [hst, List.length_append] at hle
      have HSt : Hid (A ++ (L.take (i + 1)).flatMap (fun p : Ans × Value => anC.enc p.1) = (A ++ (L.take i).flatMap (fun p : Ans × Value => anC.enc p.1)) ++ anC.enc L[i].1) := Lib.hid (by rw [hst, List.append_assoc])
      have hoky := HOKL.out L[i] (List.getElem_mem h)
      have hKv := (HR2.out L[i] (List.getElem_mem h)).grew HBR.out
      have hA : (A ++ (L.take i).flatMap (fun p : Ans × Value => anC.enc p.1)).length + (anC.enc L[i].1).length ≤ 140737488355328 := by rw [List.length_append]; omega
      clear hst hle hcc HOKL hMw hAlen G0 HR2
      generalize hI : A ++ (L.take i).flatMap (fun p : Ans × Value => anC.enc p.1) = I at *
      clear hI
      generalize L[i] = yy at *
      obtain ⟨y, yv⟩ := yy
      obtain ⟨a2, q2, hyv⟩ := hKv.form
      simp only at hKv hyv hoky hA HSt
      subst hyv
      have he : anC.enc y = numL y.kind ++ ((numL (y.kvs.length : Int) ++ y.kvs.flatMap kvC.enc) ++ (numL y.count ++ flagC.enc y.more)) := rfl
      rw [he] at hA HSt
      simp only [List.length_append] at hA
      have hn2 : y.kvs.length ≤ 10000 := hoky.2.1.1
      have HOKK : Hid (∀ z ∈ y.kvs, kvC.ok z) := Lib.hid hoky.2.1.2
      have HK0 := Lib.hid hKv
      have H0 := Lib.hid (fun X => refnum21 (y.kind) (hoky.1) X)
      have H1 := Lib.hid (fun X => refnum21 ((y.kvs.length : Int)) (by have : y.kvs.length ≤ 10000 := hoky.2.1.1; unfold i64; omega) X)
      have G0 := Lib.hid (fun X => refnum21 (y.count) (hoky.2.2.1) X)
      have G1 := Lib.hid (fun X => refflag21 y.more X)
      have HS2 : Hid (A ++ (L.take (i + 1)).flatMap (fun p : Ans × Value => anC.enc p.1) = I ++ numL y.kind ++ numL (y.kvs.length : Int) ++ y.kvs.flatMap kvC.enc ++ numL y.count ++ flagC.enc y.more) := Lib.hid (by rw [HSt.out]; simp only [List.append_assoc])
      clear HSt he hoky hKv
      have HA := Lib.hid hA
      have hsum : I.length + (numL y.kind).length + (numL (y.kvs.length : Int)).length ≤ 140737488355328 := by omega
      clear hA
      generalize numL y.kind = Q0 at *
      generalize numL ((y.kvs.length : Int)) = Q1 at *
      have s1 : ¬ 9223372036854775807 < (bs I).size + (bs Q0).size := by simp only [bs_append, bs_size, List.length_append]; omega
      have s2 : ¬ 9223372036854775807 < (bs I ++ bs Q0).size + (bs Q1).size := by simp only [bs_append, bs_size, List.length_append]; omega
      have ss2 : ¬ 9223372036854775807 < (bs I).size + (bs Q0).size + (bs Q1).size := by simp only [bs_size]; omega
      unfold anV at *
      obtain ⟨V, hW⟩ : ∃ X, X = WO.alloc (.cells ([.int .i64 y.kind, .slice a2 y.kvs.length q2, .int .i64 y.count, .bool y.more]).toArray 99) := ⟨_, rfl⟩
      have hB : Below WO.heap.size WO V := by rw [hW]; exact alloc_below WO _
      have hb0 : BlkAt WO.heap.size 99 ([.int .i64 y.kind, .slice a2 y.kvs.length q2, .int .i64 y.count, .bool y.more]) V := by rw [hW]; exact BlkAt.alloc_new WO _ _
      have HV := Lib.hid hW
      have HBV := Lib.hid (HBR.out.step hB)
      have HK := Lib.hid (HK0.out.grew hB)
      have HN := Lib.hid hb0
      have d0 := BlkAt.cell hb0 (i := 0) rfl
      have d1 := BlkAt.cell hb0 (i := 1) rfl
      clear hW hB hb0 HK0
      simp only at c0 c1 c2 c3
      go_wp2_with (fail)
      rw [← HV.out]
      clear HV
      have hex := Grew.all V
      refine wp_region_grew (by kernel_rfl) (by kernel_rfl) ?_
      repeat (first | go_big_quiet_skip | (go_big_quiet_want; first | (refine quiet_load_cell _ _ rfl ⟨WO.heap.size, 0, none⟩ rfl _ _ Try.underlying3 rfl (fun W hW => Grew.cell hW d0) ?_; simp only [Act.put, List.setIfInBounds_toArray, List.set_cons_succ, List.set_cons_zero]; go_big_quiet_on) | (refine quiet_load_cell _ _ rfl ⟨WO.heap.size, 1, none⟩ rfl _ _ Try.underlying97 rfl (fun W hW => Grew.cell hW d1) ?_; simp only [Act.put, List.setIfInBounds_toArray, List.set_cons_succ, List.set_cons_zero]; go_big_quiet_on) | (go_big_quiet_op; first | go_big_quiet_on | (apply Exists.intro; refine ⟨fun W hW => ?_, ?_⟩; (first | exact rfl | (go_at_call 44; with_reducible exact Calls.grew hW (H0.out _)) | (go_at_call 44; with_reducible exact Calls.grew hW (H1.out _))); go_big_quiet_on))))
      refine wpQuiet_nil ?_
      intro w4 hw4
      have HB4 := Lib.hid hw4
      clear hex hw4 d0 d1 H0 H1 s1 s2 ss2 hsum
      simp only [bs_append]
      have hJ : (I ++ Q0 ++ Q1).length + (y.kvs.flatMap kvC.enc).length ≤ 140737488355328 := by have := HA.out; simp only [List.length_append]; omega
      have HA2 : Hid ((I ++ Q0 ++ Q1).length + (y.kvs.flatMap kvC.enc).length + (numL y.count).length + (flagC.enc y.more).length ≤ 140737488355328) := Lib.hid (by have := HA.out; simp only [List.length_append]; omega)
      clear HA
      generalize I ++ Q0 ++ Q1 = J at *
      go_wp2_with (fail)
      go_loopw [3, 6] (fun sv vk wk => ∃ (k : Nat), vk = .int .i64 k ∧ k ≤ y.kvs.length ∧ sv = .string (bs (J ++ (y.kvs.take k).flatMap kvC.enc)) ∧ Grew V wk) (fun _ vk _ => y.kvs.length - (intOf vk).toNat)
      case atStart => exact ⟨0, rfl, by omega, by simp, HB4.out⟩
      case round =>
        obtain ⟨k, rfl, hk, rfl, hbk⟩ := hrel
        have HBK := Lib.hid hbk
        have hNw := HN.out.grew hbk
        have d1 := BlkAt.cell hNw (i := 1) rfl
        clear hbk HB4
        by_cases hlk : k < y.kvs.length
        · as_aux_lemma =>
          have q1' : decide (k < y.kvs.length) = true := decide_eq_true hlk
          obtain ⟨bk, offk, rfl, hck⟩ := (HK.out.grew HBK.out).get k hlk
          have e0 : wr.cell? ⟨bk, offk + k * 6, none⟩ = some _ := hck 0 _ rfl
          have e1 : wr.cell? ⟨bk, offk + k * 6 + 1, none⟩ = some _ := hck 1 _ rfl
          have e2 : wr.cell? ⟨bk, offk + k * 6 + 2, none⟩ = some _ := hck 2 _ rfl
          have e3 : wr.cell? ⟨bk, offk + k * 6 + 3, none⟩ = some _ := hck 3 _ rfl
          have e4 : wr.cell? ⟨bk, offk + k * 6 + 4, none⟩ = some _ := hck 4 _ rfl
          have e5 : wr.cell? ⟨bk, offk + k * 6 + 5, none⟩ = some _ := hck 5 _ rfl
          have hst := flat_take1 kvC.enc y.kvs k hlk
          have hle := flat_take_le kvC.enc y.kvs (k + 1)
          rw [hst, List.length_append] at hle
          have HSt : Hid (J ++ (y.kvs.take (k + 1)).flatMap kvC.enc = (J ++ (y.kvs.take k).flatMap kvC.enc) ++ kvC.enc y.kvs[k]) := Lib.hid (by rw [hst, List.append_assoc])
          have hokz := HOKK.out y.kvs[k] (List.getElem_mem hlk)
          have hA : (J ++ (y.kvs.take k).flatMap kvC.enc).length + (kvC.enc y.kvs[k]).length ≤ 140737488355328 := by rw [List.length_append]; omega
          clear hst hle hck HOKK hNw hJ G0 G1 HA2 c0 c1 c2 c3 m3 q0
          generalize hI2 : J ++ (y.kvs.take k).flatMap kvC.enc = K at *
          clear hI2
          generalize y.kvs[k] = z at *
          have he : kvC.enc z = textL z.key ++ (textL z.value ++ (numL z.create ++ (numL z.mod ++ (numL z.version ++ numL z.lease)))) := rfl
          rw [he] at hA HSt
          simp only [List.length_append] at hA
          have ht : z.key.length ≤ (textL z.key).length := by unfold textL; rw [List.length_append]; omega
          have ht2 : z.value.length ≤ (textL z.value).length := by unfold textL; rw [List.length_append]; omega
          have H0 := Lib.hid (fun X => reftext21 z.key (by omega) X)
          have H1 := Lib.hid (fun X => reftext21 z.value (by omega) X)
          have H2 := Lib.hid (fun X => refnum21 (z.create) (hokz.2.2.1) X)
          have H3 := Lib.hid (fun X => refnum21 (z.mod) (hokz.2.2.2.1) X)
          have H4 := Lib.hid (fun X => refnum21 (z.version) (hokz.2.2.2.2.1) X)
          have H5 := Lib.hid (fun X => refnum21 (z.lease) (hokz.2.2.2.2.2) X)
          have HS3 : Hid (J ++ (y.kvs.take (k + 1)).flatMap kvC.enc = K ++ textL z.key ++ textL z.value ++ numL z.create ++ numL z.mod ++ numL z.version ++ numL z.lease) := Lib.hid (by rw [HSt.out]; simp only [List.append_assoc])
          clear HSt he hokz ht ht2
          generalize textL z.key = S0 at *
          generalize textL z.value = S1 at *
          generalize numL z.create = S2 at *
          generalize numL z.mod = S3 at *
          generalize numL z.version = S4 at *
          generalize numL z.lease = S5 at *
          have s1 : ¬ 9223372036854775807 < (bs K).size + (bs S0).size := by simp only [bs_append, bs_size, List.length_append]; omega
          have s2 : ¬ 9223372036854775807 < (bs K ++ bs S0).size + (bs S1).size := by simp only [bs_append, bs_size, List.length_append]; omega
          have ss2 : ¬ 9223372036854775807 < (bs K).size + (bs S0).size + (bs S1).size := by simp only [bs_size]; omega
          have s3 : ¬ 9223372036854775807 < (bs K ++ bs S0 ++ bs S1).size + (bs S2).size := by simp only [bs_append, bs_size, List.length_append]; omega
          have ss3 : ¬ 9223372036854775807 < (bs K).size + (bs S0).size + (bs S1).size + (bs S2).size := by simp only [bs_size]; omega
          have s4 : ¬ 9223372036854775807 < (bs K ++ bs S0 ++ bs S1 ++ bs S2).size + (bs S3).size := by simp only [bs_append, bs_size, List.length_append]; omega
          have ss4 : ¬ 9223372036854775807 < (bs K).size + (bs S0).size + (bs S1).size + (bs S2).size + (bs S3).size := by simp only [bs_size]; omega
          have s5 : ¬ 9223372036854775807 < (bs K ++ bs S0 ++ bs S1 ++ bs S2 ++ bs S3).size + (bs S4).size := by simp only [bs_append, bs_size, List.length_append]; omega
          have ss5 : ¬ 9223372036854775807 < (bs K).size + (bs S0).size + (bs S1).size + (bs S2).size + (bs S3).size + (bs S4).size := by simp only [bs_size]; omega
          have s6 : ¬ 9223372036854775807 < (bs K ++ bs S0 ++ bs S1 ++ bs S2 ++ bs S3 ++ bs S4).size + (bs S5).size := by simp only [bs_append, bs_size, List.length_append]; omega
          have ss6 : ¬ 9223372036854775807 < (bs K).size + (bs S0).size + (bs S1).size + (bs S2).size + (bs S3).size + (bs S4).size + (bs S5).size := by simp only [bs_size]; omega
          unfold kvV at *
          obtain ⟨U, hW⟩ : ∃ X, X = wr.alloc (.cells ([.string (bs z.key), .string (bs z.value), .int .i64 z.create, .int .i64 z.mod, .int .i64 z.version, .int .i64 z.lease]).toArray 101) := ⟨_, rfl⟩
          have hB : Below wr.heap.size wr U := by rw [hW]; exact alloc_below wr _
          have hb0 : BlkAt wr.heap.size 101 ([.string (bs z.key), .string (bs z.value), .int .i64 z.create, .int .i64 z.mod, .int .i64 z.version, .int .i64 z.lease]) U := by rw [hW]; exact BlkAt.alloc_new wr _ _
          have HV := Lib.hid hW
          have HBU := Lib.hid (HBK.out.step hB)
          have f0 := BlkAt.cell hb0 (i := 0) rfl
          have f1 := BlkAt.cell hb0 (i := 1) rfl
          have f2 := BlkAt.cell hb0 (i := 2) rfl
          have f3 := BlkAt.cell hb0 (i := 3) rfl
          have f4 := BlkAt.cell hb0 (i := 4) rfl
          have f5 := BlkAt.cell hb0 (i := 5) rfl
          clear hW hB hb0
          go_wp2_with (fail)
          rw [← HV.out]
          clear HV
          have hex := Grew.all U
          refine wp_region_grew (by kernel_rfl) (by kernel_rfl) ?_
          repeat (first | go_big_quiet_skip | (go_big_quiet_want; first | (refine quiet_load_cell _ _ rfl ⟨wr.heap.size, 0, none⟩ rfl _ _ Try.underlying9 rfl (fun W hW => Grew.cell hW f0) ?_; simp only [Act.put, List.setIfInBounds_toArray, List.set_cons_succ, List.set_cons_zero]; go_big_quiet_on) | (refine quiet_load_cell _ _ rfl ⟨wr.heap.size, 1, none⟩ rfl _ _ Try.underlying9 rfl (fun W hW => Grew.cell hW f1) ?_; simp only [Act.put, List.setIfInBounds_toArray, List.set_cons_succ, List.set_cons_zero]; go_big_quiet_on) | (refine quiet_load_cell _ _ rfl ⟨wr.heap.size, 2, none⟩ rfl _ _ Try.underlying3 rfl (fun W hW => Grew.cell hW f2) ?_; simp only [Act.put, List.setIfInBounds_toArray, List.set_cons_succ, List.set_cons_zero]; go_big_quiet_on) | (refine quiet_load_cell _ _ rfl ⟨wr.heap.size, 3, none⟩ rfl _ _ Try.underlying3 rfl (fun W hW => Grew.cell hW f3) ?_; simp only [Act.put, List.setIfInBounds_toArray, List.set_cons_succ, List.set_cons_zero]; go_big_quiet_on) | (refine quiet_load_cell _ _ rfl ⟨wr.heap.size, 4, none⟩ rfl _ _ Try.underlying3 rfl (fun W hW => Grew.cell hW f4) ?_; simp only [Act.put, List.setIfInBounds_toArray, List.set_cons_succ, List.set_cons_zero]; go_big_quiet_on) | (refine quiet_load_cell _ _ rfl ⟨wr.heap.size, 5, none⟩ rfl _ _ Try.underlying3 rfl (fun W hW => Grew.cell hW f5) ?_; simp only [Act.put, List.setIfInBounds_toArray, List.set_cons_succ, List.set_cons_zero]; go_big_quiet_on) | (go_big_quiet_op; first | go_big_quiet_on | (apply Exists.intro; refine ⟨fun W hW => ?_, ?_⟩; (first | exact rfl | (go_at_call 45; with_reducible exact Calls.grew hW (H0.out _)) | (go_at_call 45; with_reducible exact Calls.grew hW (H1.out _)) | (go_at_call 44; with_reducible exact Calls.grew hW (H2.out _)) | (go_at_call 44; with_reducible exact Calls.grew hW (H3.out _)) | (go_at_call 44; with_reducible exact Calls.grew hW (H4.out _)) | (go_at_call 44; with_reducible exact Calls.grew hW (H5.out _))); go_big_quiet_on))))
          refine wpQuiet_nil ?_
          intro w5 hw5
          have HB5 := Lib.hid (HBU.out.trans hw5)
          clear hex hw5
          go_wp2
          go_roundw
          case rel => exact ⟨k + 1, by go_num, by omega, by rw [HS3.out]; simp only [bs_append], HB5.out⟩
          case measure => simp [intOf]; omega
        · as_aux_lemma =>
          have q1' : decide (k < y.kvs.length) = false := decide_eq_false hlk
          have hE : J ++ (y.kvs.take k).flatMap kvC.enc = J ++ y.kvs.flatMap kvC.enc := by rw [List.take_of_length_le (by omega)]
          rw [hE]
          have hsum : (J ++ y.kvs.flatMap kvC.enc).length + (numL y.count).length + (flagC.enc y.more).length ≤ 140737488355328 := by have := HA2.out; rw [List.length_append]; omega
          clear HA2 hE hJ
          have d2 := BlkAt.cell hNw (i := 2) rfl
          have d3 := BlkAt.cell hNw (i := 3) rfl
          clear hNw c0 c1 c2 c3 m3 q0
          generalize J ++ y.kvs.flatMap kvC.enc = K at *
          generalize numL y.count = S0 at *
          generalize flagC.enc y.more = S1 at *
          have s1 : ¬ 9223372036854775807 < (bs K).size + (bs S0).size := by simp only [bs_append, bs_size, List.length_append]; omega
          have s2 : ¬ 9223372036854775807 < (bs K ++ bs S0).size + (bs S1).size := by simp only [bs_append, bs_size, List.length_append]; omega
          have ss2 : ¬ 9223372036854775807 < (bs K).size + (bs S0).size + (bs S1).size := by simp only [bs_size]; omega
          clear hsum
          go_wp2_with (fail)
          have hex := Grew.all wr
          refine wp_region_grew (by kernel_rfl) (by kernel_rfl) ?_
          repeat (first | go_big_quiet_skip | (go_big_quiet_want; first | (refine quiet_load_cell _ _ rfl ⟨WO.heap.size, 2, none⟩ rfl _ _ Try.underlying3 rfl (fun W hW => Grew.cell hW d2) ?_; simp only [Act.put, List.setIfInBounds_toArray, List.set_cons_succ, List.set_cons_zero]; go_big_quiet_on) | (refine quiet_load_cell _ _ rfl ⟨WO.heap.size, 3, none⟩ rfl _ _ Try.underlying4 rfl (fun W hW => Grew.cell hW d3) ?_; simp only [Act.put, List.setIfInBounds_toArray, List.set_cons_succ, List.set_cons_zero]; go_big_quiet_on) | (go_big_quiet_op; first | go_big_quiet_on | (apply Exists.intro; refine ⟨fun W hW => ?_, ?_⟩; (first | exact rfl | (go_at_call 44; with_reducible exact Calls.grew hW (G0.out _)) | (go_at_call 52; with_reducible exact Calls.grew hW (G1.out _))); go_big_quiet_on))))
          refine wpQuiet_nil ?_
          intro w5 hw5
          have HB5 := Lib.hid (HBV.out.trans (HBK.out.trans hw5))
          clear hex hw5
          go_wp2
          go_roundw
          case rel => exact ⟨i + 1, by go_num, by omega, by rw [HS2.out]; simp only [bs_append], HB5.out⟩
          case measure => simp [intOf]; omega
    · as_aux_lemma =>
      have q0 : decide (i < L.length) = false := decide_eq_false h
      have hE : A ++ (L.take i).flatMap (fun p : Ans × Value => anC.enc p.1) = A ++ L.flatMap (fun p : Ans × Value => anC.enc p.1) := by rw [List.take_of_length_le (by omega)]
      rw [hE]
      have hsum : (A ++ L.flatMap (fun p : Ans × Value => anC.enc p.1)).length + (numL x.ticks).length ≤ 140737488355328 := by have := HSA.out; rw [List.length_append]; omega
      clear HSA hE hAlen
      have m4 := BlkAt.cell hMw (i := 4) rfl
      clear hMw
      generalize A ++ L.flatMap (fun p : Ans × Value => anC.enc p.1) = I at *
      generalize numL x.ticks = Q0 at *
      have s1 : ¬ 9223372036854775807 < (bs I).size + (bs Q0).size := by simp only [bs_append, bs_size, List.length_append]; omega
      clear hsum
      go_wp2_with (go_at_call 44; (with_reducible refine (G0.out _).mono ?_); rintro e w4 ⟨rfl, hw4⟩)
      have HB4 := Lib.hid (HBR.out.step hw4)
      clear hw4
      go_wp2
      go_ret
      exact ⟨by rw [← HRR.out]; simp only [bs_append]; rfl, HB.out.trans (Below.mono HB4.out HB.out.size)⟩
end Go.Proofs.Ytlcblkmmkphpmaa
