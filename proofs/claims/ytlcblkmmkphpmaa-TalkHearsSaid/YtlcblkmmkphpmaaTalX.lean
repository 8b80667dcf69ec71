/- The writer's rang, compare, op, kv, answer, and its lists. Printed by gen/genTalX.py. Conditions: as each theorem says. -/
import Derived.Test.YtlcblkmmkphpmaaTalW
import Derived.Test.YtlcblkmmkphpmaaOpen
namespace Go.Proofs.Ytlcblkmmkphpmaa
open Go.RowKit

theorem Ww.lt {B b : Nat} {D : List UInt8} {u w : World} (h : Ww B b D u w) : b < w.heap.size := by
  obtain ⟨p, v, hb⟩ := isw_blk h.at_
  exact hb.lt
theorem Ww.new {B b : Nat} {D : List UInt8} {u w : World} (h : Ww B b D u w) : w.heap.size ≠ b := fun e => by have := h.lt; omega
theorem Ww.rows {α : Type} {k : Nat} {enc : α → List Value} {B b : Nat} {D : List UInt8} {u w : World} {v : Value} {L : List α} (h : Ww B b D u w) (hu : Below u.heap.size u w → True) (hB : RowsAt k enc w v L) : RowsAt k enc w v L := hB
def rgV (x : Rg) : List Value := [.string (bs x.key), .string (bs x.end_), .int .i64 x.rev, .int .i64 x.limit, .bool x.keys, .bool x.count, .bool x.desc]
def cpV (x : Cp) : List Value := [.string (bs x.key), .int .i64 x.what, .int .i64 x.how, .int .i64 x.number, .string (bs x.value)]
def opV (x : Opr) : List Value := [.int .i64 x.kind, .string (bs x.rg.key), .string (bs x.rg.end_), .int .i64 x.rg.rev, .int .i64 x.rg.limit, .bool x.rg.keys, .bool x.rg.count, .bool x.rg.desc, .string (bs x.value), .int .i64 x.lease]
def kvV (x : Kvr) : List Value := [.string (bs x.key), .string (bs x.value), .int .i64 x.create, .int .i64 x.mod, .int .i64 x.version, .int .i64 x.lease]
set_option maxRecDepth 100000 in
set_option maxHeartbeats 1000000 in
theorem rang_any {B b : Nat} {D : Byt} {u : World} (x : Rg) (hok : rgC.ok x) (hd : D.length + (rgC.enc x).length ≤ 140737488355328) (W : World) (h : Ww B b D u W) :
    Calls Try.prog 47 #[.pointer (some ⟨b, 0, none⟩), .agg (rgV x).toArray] W fun e w' => e = .returned (.tuple #[]) ∧ Ww B b (D ++ rgC.enc x) u w' := by
  have he : rgC.enc x = (textL x.key ++ (textL x.end_ ++ (numL x.rev ++ (numL x.limit ++ (flagC.enc x.keys ++ (flagC.enc x.count ++ (flagC.enc x.desc))))))) := rfl
  have hd2 := hd
  rw [he] at hd2
  simp only [List.length_append] at hd2
  have ht0 : (x.key).length ≤ (textL x.key).length := by unfold textL; rw [List.length_append]; omega
  have ht1 : (x.end_).length ≤ (textL x.end_).length := by unfold textL; rw [List.length_append]; omega
  have H0 := Lib.hid (texts2 (B := B) (b := b) (D := D) (u := W.alloc (.cells (rgV x).toArray 28)) x.key x.end_ (by omega) (by omega) (by simp only [List.length_append]; omega))
  have H1 := Lib.hid (nums2 (B := B) (b := b) (D := (D ++ (textL x.key ++ (textL x.end_)))) (u := W.alloc (.cells (rgV x).toArray 28)) x.rev x.limit hok.2.2.1 hok.2.2.2.1 (by simp only [List.length_append]; omega))
  have H2 := Lib.hid (flags3 (B := B) (b := b) (D := ((D ++ (textL x.key ++ (textL x.end_))) ++ (numL x.rev ++ (numL x.limit)))) (u := W.alloc (.cells (rgV x).toArray 28)) x.keys x.count x.desc  (by simp only [List.length_append]; omega))
  have HE : Hid ((((D ++ (textL x.key ++ (textL x.end_))) ++ (numL x.rev ++ (numL x.limit))) ++ (flagC.enc x.keys ++ (flagC.enc x.count ++ (flagC.enc x.desc)))) = D ++ rgC.enc x) := Lib.hid (by rw [he]; simp only [List.append_assoc])
  have hb0 := BlkAt.alloc_new W (rgV x) 28
  have HW := Lib.hid (h.alloc (.cells (rgV x).toArray 28))
  have HW0 := Lib.hid HW.out.refl
  have HNE := Lib.hid h.new
  have HB := Lib.hid hb0
  clear h hd hd2 hok he ht0 ht1
  have c0 := BlkAt.cell hb0 (i := 0) rfl; have c1 := BlkAt.cell hb0 (i := 1) rfl
  clear hb0
  unfold rgV at *
  go_enter Try.func47, Try.ntmps47
  go_wp2_with (first
    | (go_at_call 71; (with_reducible refine (H0.out _ HW0.out _ (size1 _ _)).mono ?_); rintro e w1 ⟨rfl, hW⟩; have hk := hW.blk HB.out HNE.out (by decide); have c2 := BlkAt.cell hk (i := 2) rfl; have c3 := BlkAt.cell hk (i := 3) rfl; clear hk; have HW1 := Lib.hid hW; clear hW)
    | (go_at_call 38; (with_reducible refine (H1.out _ HW1.out _ rfl).mono ?_); rintro e w2 ⟨rfl, hW⟩; have hk := hW.blk HB.out HNE.out (by decide); have c4 := BlkAt.cell hk (i := 4) rfl; have c5 := BlkAt.cell hk (i := 5) rfl; have c6 := BlkAt.cell hk (i := 6) rfl; clear hk; have HW2 := Lib.hid hW; clear hW)
    | (go_at_call 49; (with_reducible refine (H2.out _ HW2.out _ rfl).mono ?_); rintro e w3 ⟨rfl, hW⟩; have HW3 := Lib.hid hW; clear hW))
  go_end0
  exact ⟨rfl, (HW.out.trans HW3.out).cast HE.out⟩
set_option maxRecDepth 100000 in
set_option maxHeartbeats 1000000 in
theorem compare_any {B b : Nat} {D : Byt} {u : World} (x : Cp) (hok : cpC.ok x) (hd : D.length + (cpC.enc x).length ≤ 140737488355328) (W : World) (h : Ww B b D u W) :
    Calls Try.prog 40 #[.pointer (some ⟨b, 0, none⟩), .agg (cpV x).toArray] W fun e w' => e = .returned (.tuple #[]) ∧ Ww B b (D ++ cpC.enc x) u w' := by
  have he : cpC.enc x = (textL x.key ++ (numL x.what ++ (numL x.how ++ (numL x.number ++ (textL x.value))))) := rfl
  have hd2 := hd
  rw [he] at hd2
  simp only [List.length_append] at hd2
  have ht0 : (x.key).length ≤ (textL x.key).length := by unfold textL; rw [List.length_append]; omega
  have ht4 : (x.value).length ≤ (textL x.value).length := by unfold textL; rw [List.length_append]; omega
  have H0 := Lib.hid (texts1 (B := B) (b := b) (D := D) (u := W.alloc (.cells (cpV x).toArray 75)) x.key (by omega) (by omega))
  have H1 := Lib.hid (nums3 (B := B) (b := b) (D := (D ++ (textL x.key))) (u := W.alloc (.cells (cpV x).toArray 75)) x.what x.how x.number hok.2.1 hok.2.2.1 hok.2.2.2.1 (by simp only [List.length_append]; omega))
  have H2 := Lib.hid (texts1 (B := B) (b := b) (D := ((D ++ (textL x.key)) ++ (numL x.what ++ (numL x.how ++ (numL x.number))))) (u := W.alloc (.cells (cpV x).toArray 75)) x.value (by omega) (by simp only [List.length_append]; omega))
  have HE : Hid ((((D ++ (textL x.key)) ++ (numL x.what ++ (numL x.how ++ (numL x.number)))) ++ (textL x.value)) = D ++ cpC.enc x) := Lib.hid (by rw [he]; simp only [List.append_assoc])
  have hb0 := BlkAt.alloc_new W (cpV x) 75
  have HW := Lib.hid (h.alloc (.cells (cpV x).toArray 75))
  have HW0 := Lib.hid HW.out.refl
  have HNE := Lib.hid h.new
  have HB := Lib.hid hb0
  clear h hd hd2 hok he ht0 ht4
  have c0 := BlkAt.cell hb0 (i := 0) rfl
  clear hb0
  unfold cpV at *
  go_enter Try.func40, Try.ntmps40
  go_wp2_with (first
    | (go_at_call 71; (with_reducible refine (H0.out _ HW0.out _ (size1 _ _)).mono ?_); rintro e w1 ⟨rfl, hW⟩; have hk := hW.blk HB.out HNE.out (by decide); have c1 := BlkAt.cell hk (i := 1) rfl; have c2 := BlkAt.cell hk (i := 2) rfl; have c3 := BlkAt.cell hk (i := 3) rfl; clear hk; have HW1 := Lib.hid hW; clear hW)
    | (go_at_call 38; (with_reducible refine (H1.out _ HW1.out _ rfl).mono ?_); rintro e w2 ⟨rfl, hW⟩; have hk := hW.blk HB.out HNE.out (by decide); have c4 := BlkAt.cell hk (i := 4) rfl; clear hk; have HW2 := Lib.hid hW; clear hW)
    | (go_at_call 71; (with_reducible refine (H2.out _ HW2.out _ rfl).mono ?_); rintro e w3 ⟨rfl, hW⟩; have HW3 := Lib.hid hW; clear hW))
  go_end0
  exact ⟨rfl, (HW.out.trans HW3.out).cast HE.out⟩
set_option maxRecDepth 100000 in
set_option maxHeartbeats 1000000 in
theorem op_any {B b : Nat} {D : Byt} {u : World} (x : Opr) (hok : opC.ok x) (hd : D.length + (opC.enc x).length ≤ 140737488355328) (W : World) (h : Ww B b D u W) :
    Calls Try.prog 42 #[.pointer (some ⟨b, 0, none⟩), .agg (opV x).toArray] W fun e w' => e = .returned (.tuple #[]) ∧ Ww B b (D ++ opC.enc x) u w' := by
  have he : opC.enc x = (numL x.kind ++ (rgC.enc x.rg ++ (textL x.value ++ (numL x.lease)))) := rfl
  have hd2 := hd
  rw [he] at hd2
  simp only [List.length_append] at hd2
  have ht2 : (x.value).length ≤ (textL x.value).length := by unfold textL; rw [List.length_append]; omega
  have H0 := Lib.hid (nums1 (B := B) (b := b) (D := D) (u := W.alloc (.cells (opV x).toArray 89)) x.kind hok.1 (by omega))
  have H1 := Lib.hid (rang_any (B := B) (b := b) (D := (D ++ (numL x.kind))) (u := W.alloc (.cells (opV x).toArray 89)) x.rg hok.2.1 (by simp only [List.length_append]; omega))
  have H2 := Lib.hid (texts1 (B := B) (b := b) (D := ((D ++ (numL x.kind)) ++ (rgC.enc x.rg))) (u := W.alloc (.cells (opV x).toArray 89)) x.value (by omega) (by simp only [List.length_append]; omega))
  have H3 := Lib.hid (nums1 (B := B) (b := b) (D := (((D ++ (numL x.kind)) ++ (rgC.enc x.rg)) ++ (textL x.value))) (u := W.alloc (.cells (opV x).toArray 89)) x.lease hok.2.2.2 (by simp only [List.length_append]; omega))
  have HE : Hid (((((D ++ (numL x.kind)) ++ (rgC.enc x.rg)) ++ (textL x.value)) ++ (numL x.lease)) = D ++ opC.enc x) := Lib.hid (by rw [he]; simp only [List.append_assoc])
  have hb0 := BlkAt.alloc_new W (opV x) 89
  have HW := Lib.hid (h.alloc (.cells (opV x).toArray 89))
  have HW0 := Lib.hid HW.out.refl
  have HNE := Lib.hid h.new
  have HB := Lib.hid hb0
  clear h hd hd2 hok he ht2
  have c0 := BlkAt.cell hb0 (i := 0) rfl
  clear hb0
  unfold opV rgV at *
  go_enter Try.func42, Try.ntmps42
  go_wp2_with (first
    | (go_at_call 38; (with_reducible refine (H0.out _ HW0.out _ (size1 _ _)).mono ?_); rintro e w1 ⟨rfl, hW⟩; have hk := hW.blk HB.out HNE.out (by decide); have c1 := BlkAt.cell hk (i := 1) rfl; have c2 := BlkAt.cell hk (i := 2) rfl; have c3 := BlkAt.cell hk (i := 3) rfl; have c4 := BlkAt.cell hk (i := 4) rfl; have c5 := BlkAt.cell hk (i := 5) rfl; have c6 := BlkAt.cell hk (i := 6) rfl; have c7 := BlkAt.cell hk (i := 7) rfl; clear hk; have HW1 := Lib.hid hW; clear hW)
    | (go_at_call 47; (with_reducible refine (H1.out _ HW1.out).mono ?_); rintro e w2 ⟨rfl, hW⟩; have hk := hW.blk HB.out HNE.out (by decide); have c8 := BlkAt.cell hk (i := 8) rfl; clear hk; have HW2 := Lib.hid hW; clear hW)
    | (go_at_call 71; (with_reducible refine (H2.out _ HW2.out _ rfl).mono ?_); rintro e w3 ⟨rfl, hW⟩; have hk := hW.blk HB.out HNE.out (by decide); have c9 := BlkAt.cell hk (i := 9) rfl; clear hk; have HW3 := Lib.hid hW; clear hW)
    | (go_at_call 38; (with_reducible refine (H3.out _ HW3.out _ rfl).mono ?_); rintro e w4 ⟨rfl, hW⟩; have HW4 := Lib.hid hW; clear hW))
  go_end0
  exact ⟨rfl, (HW.out.trans HW4.out).cast HE.out⟩
set_option maxRecDepth 100000 in
set_option maxHeartbeats 1000000 in
theorem kv_any {B b : Nat} {D : Byt} {u : World} (x : Kvr) (hok : kvC.ok x) (hd : D.length + (kvC.enc x).length ≤ 140737488355328) (W : World) (h : Ww B b D u W) :
    Calls Try.prog 75 #[.pointer (some ⟨b, 0, none⟩), .agg (kvV x).toArray] W fun e w' => e = .returned (.tuple #[]) ∧ Ww B b (D ++ kvC.enc x) u w' := by
  have he : kvC.enc x = (textL x.key ++ (textL x.value ++ (numL x.create ++ (numL x.mod ++ (numL x.version ++ (numL x.lease)))))) := rfl
  have hd2 := hd
  rw [he] at hd2
  simp only [List.length_append] at hd2
  have ht0 : (x.key).length ≤ (textL x.key).length := by unfold textL; rw [List.length_append]; omega
  have ht1 : (x.value).length ≤ (textL x.value).length := by unfold textL; rw [List.length_append]; omega
  have H0 := Lib.hid (texts2 (B := B) (b := b) (D := D) (u := W.alloc (.cells (kvV x).toArray 101)) x.key x.value (by omega) (by omega) (by simp only [List.length_append]; omega))
  have H1 := Lib.hid (nums4 (B := B) (b := b) (D := (D ++ (textL x.key ++ (textL x.value)))) (u := W.alloc (.cells (kvV x).toArray 101)) x.create x.mod x.version x.lease hok.2.2.1 hok.2.2.2.1 hok.2.2.2.2.1 hok.2.2.2.2.2 (by simp only [List.length_append]; omega))
  have HE : Hid (((D ++ (textL x.key ++ (textL x.value))) ++ (numL x.create ++ (numL x.mod ++ (numL x.version ++ (numL x.lease))))) = D ++ kvC.enc x) := Lib.hid (by rw [he]; simp only [List.append_assoc])
  have hb0 := BlkAt.alloc_new W (kvV x) 101
  have HW := Lib.hid (h.alloc (.cells (kvV x).toArray 101))
  have HW0 := Lib.hid HW.out.refl
  have HNE := Lib.hid h.new
  have HB := Lib.hid hb0
  clear h hd hd2 hok he ht0 ht1
  have c0 := BlkAt.cell hb0 (i := 0) rfl; have c1 := BlkAt.cell hb0 (i := 1) rfl
  clear hb0
  unfold kvV at *
  go_enter Try.func75, Try.ntmps75
  go_wp2_with (first
    | (go_at_call 71; (with_reducible refine (H0.out _ HW0.out _ (size1 _ _)).mono ?_); rintro e w1 ⟨rfl, hW⟩; have hk := hW.blk HB.out HNE.out (by decide); have c2 := BlkAt.cell hk (i := 2) rfl; have c3 := BlkAt.cell hk (i := 3) rfl; have c4 := BlkAt.cell hk (i := 4) rfl; have c5 := BlkAt.cell hk (i := 5) rfl; clear hk; have HW1 := Lib.hid hW; clear hW)
    | (go_at_call 38; (with_reducible refine (H1.out _ HW1.out _ rfl).mono ?_); rintro e w2 ⟨rfl, hW⟩; have HW2 := Lib.hid hW; clear hW))
  go_end0
  exact ⟨rfl, (HW.out.trans HW2.out).cast HE.out⟩
/-- The cells of an answer whose list of keys is the slice p.2. -/
def anV (p : Ans × Value) : List Value := [.int .i64 p.1.kind, p.2, .int .i64 p.1.count, .bool p.1.more]
theorem rows_len {α : Type} {k : Nat} {enc : α → List Value} {w : World} {v : Value} {L : List α} (h : RowsAt k enc w v L) : ∃ a cap, v = .slice a L.length cap := h.form
set_option maxRecDepth 100000 in
set_option maxHeartbeats 1000000 in
theorem listCompare_any {B b : Nat} {D : Byt} {u : World} (L : List Cp) (a : Option Addr) (cap : Nat) (hR : ∀ w', Below B u w' → RowsAt 5 cpV w' (.slice a L.length cap) L) (hok : L.length ≤ 10000 ∧ ∀ x ∈ L, cpC.ok x) (hd : D.length + (listL_ cpC.enc L).length ≤ 140737488355328) (W : World) (h : Ww B b D u W) :
    Calls Try.prog 39 #[.pointer (some ⟨b, 0, none⟩), .slice a L.length cap, .func (.func 40) #[.pointer (some ⟨b, 0, none⟩)] #[]] W fun e w' => e = .returned (.tuple #[]) ∧ Ww B b (D ++ listL_ cpC.enc L) u w' := by
  have hok1 := hok.1
  have HR := Lib.hid hR
  have HOK := Lib.hid hok.2
  have HW := Lib.hid h
  unfold listL_ at *
  rw [List.length_append] at hd
  have H0 := Lib.hid (nums1 (B := B) (b := b) (D := D) (u := u) (L.length : Int) (by unfold i64; omega) (by omega))
  clear hR h hok
  go_enter Try.func39, Try.ntmps39
  go_wp2_with (go_at_call 38; (with_reducible refine (H0.out _ HW.out _ rfl).mono ?_); rintro e w1 ⟨rfl, hW⟩; have HW1 := Lib.hid hW; clear hW)
  go_loopw [15] (fun v8 W => ∃ i : Nat, v8 = .int .i64 (i : Int) ∧ i ≤ L.length ∧ Ww B b (D ++ numL (L.length : Int) ++ (L.take i).flatMap cpC.enc) u W) (fun v8 _ => L.length - (intOf v8).toNat)
  case atStart => exact ⟨0, rfl, by omega, HW1.out.cast (by simp)⟩
  case round =>
    obtain ⟨i, rfl, hi', hW⟩ := hrel
    have HW2 := Lib.hid hW
    clear hW HW1 HW
    by_cases hlt : i < L.length
    · as_aux_lemma =>
      have q0 : decide (i < L.length) = true := decide_eq_true hlt
      obtain ⟨bb, off, rfl, hc⟩ := (HR.out wr HW2.out.bel).get i hlt
      have c0 : wr.cell? ⟨bb, off + i * 5, none⟩ = some _ := hc 0 _ rfl
      have c1 : wr.cell? ⟨bb, off + i * 5 + 1, none⟩ = some _ := hc 1 _ rfl
      have c2 : wr.cell? ⟨bb, off + i * 5 + 2, none⟩ = some _ := hc 2 _ rfl
      have c3 : wr.cell? ⟨bb, off + i * 5 + 3, none⟩ = some _ := hc 3 _ rfl
      have c4 : wr.cell? ⟨bb, off + i * 5 + 4, none⟩ = some _ := hc 4 _ rfl
      have hst := flat_take1 cpC.enc L i hlt
      have hle := flat_take_le cpC.enc L (i + 1)
      rw [hst, List.length_append] at hle
      have HX := Lib.hid (compare_any (B := B) (b := b) (D := D ++ numL (L.length : Int) ++ (L.take i).flatMap cpC.enc) (u := u) L[i] (HOK.out _ (List.getElem_mem hlt)) (by simp only [List.length_append]; omega))
      have HSt := Lib.hid hst
      clear hst hle hc HOK HR
      generalize L[i] = x at *
      unfold cpV at *
      go_wp2_with (go_at_call 40; (with_reducible refine (HX.out _ (HW2.out.alloc _)).mono ?_); rintro e w1 ⟨rfl, hW⟩; have HW3 := Lib.hid hW; clear hW)
      go_roundw
      case rel => exact ⟨i + 1, by go_num, by omega, HW3.out.cast (by rw [HSt.out, List.append_assoc])⟩
      case measure => simp [intOf]; omega
    · as_aux_lemma =>
      have q0 : decide (i < L.length) = false := decide_eq_false hlt
      have HW3 : Hid (Ww B b (D ++ (numL (L.length : Int) ++ L.flatMap cpC.enc)) u wr) := Lib.hid (HW2.out.cast (by rw [List.take_of_length_le (by omega), List.append_assoc]))
      clear HW2
      go_wp2
      go_end0
      exact ⟨rfl, HW3.out⟩
set_option maxRecDepth 100000 in
set_option maxHeartbeats 1000000 in
theorem listOp_any {B b : Nat} {D : Byt} {u : World} (L : List Opr) (a : Option Addr) (cap : Nat) (hR : ∀ w', Below B u w' → RowsAt 10 opV w' (.slice a L.length cap) L) (hok : L.length ≤ 10000 ∧ ∀ x ∈ L, opC.ok x) (hd : D.length + (listL_ opC.enc L).length ≤ 140737488355328) (W : World) (h : Ww B b D u W) :
    Calls Try.prog 41 #[.pointer (some ⟨b, 0, none⟩), .slice a L.length cap, .func (.func 42) #[.pointer (some ⟨b, 0, none⟩)] #[]] W fun e w' => e = .returned (.tuple #[]) ∧ Ww B b (D ++ listL_ opC.enc L) u w' := by
  have hok1 := hok.1
  have HR := Lib.hid hR
  have HOK := Lib.hid hok.2
  have HW := Lib.hid h
  unfold listL_ at *
  rw [List.length_append] at hd
  have H0 := Lib.hid (nums1 (B := B) (b := b) (D := D) (u := u) (L.length : Int) (by unfold i64; omega) (by omega))
  clear hR h hok
  go_enter Try.func41, Try.ntmps41
  go_wp2_with (go_at_call 38; (with_reducible refine (H0.out _ HW.out _ rfl).mono ?_); rintro e w1 ⟨rfl, hW⟩; have HW1 := Lib.hid hW; clear hW)
  go_loopw [15] (fun v8 W => ∃ i : Nat, v8 = .int .i64 (i : Int) ∧ i ≤ L.length ∧ Ww B b (D ++ numL (L.length : Int) ++ (L.take i).flatMap opC.enc) u W) (fun v8 _ => L.length - (intOf v8).toNat)
  case atStart => exact ⟨0, rfl, by omega, HW1.out.cast (by simp)⟩
  case round =>
    obtain ⟨i, rfl, hi', hW⟩ := hrel
    have HW2 := Lib.hid hW
    clear hW HW1 HW
    by_cases hlt : i < L.length
    · as_aux_lemma =>
      have q0 : decide (i < L.length) = true := decide_eq_true hlt
      obtain ⟨bb, off, rfl, hc⟩ := (HR.out wr HW2.out.bel).get i hlt
      have c0 : wr.cell? ⟨bb, off + i * 10, none⟩ = some _ := hc 0 _ rfl
      have c1 : wr.cell? ⟨bb, off + i * 10 + 1, none⟩ = some _ := hc 1 _ rfl
      have c2 : wr.cell? ⟨bb, off + i * 10 + 2, none⟩ = some _ := hc 2 _ rfl
      have c3 : wr.cell? ⟨bb, off + i * 10 + 3, none⟩ = some _ := hc 3 _ rfl
      have c4 : wr.cell? ⟨bb, off + i * 10 + 4, none⟩ = some _ := hc 4 _ rfl
      have c5 : wr.cell? ⟨bb, off + i * 10 + 5, none⟩ = some _ := hc 5 _ rfl
      have c6 : wr.cell? ⟨bb, off + i * 10 + 6, none⟩ = some _ := hc 6 _ rfl
      have c7 : wr.cell? ⟨bb, off + i * 10 + 7, none⟩ = some _ := hc 7 _ rfl
      have c8 : wr.cell? ⟨bb, off + i * 10 + 8, none⟩ = some _ := hc 8 _ rfl
      have c9 : wr.cell? ⟨bb, off + i * 10 + 9, none⟩ = some _ := hc 9 _ rfl
      have hst := flat_take1 opC.enc L i hlt
      have hle := flat_take_le opC.enc L (i + 1)
      rw [hst, List.length_append] at hle
      have HX := Lib.hid (op_any (B := B) (b := b) (D := D ++ numL (L.length : Int) ++ (L.take i).flatMap opC.enc) (u := u) L[i] (HOK.out _ (List.getElem_mem hlt)) (by simp only [List.length_append]; omega))
      have HSt := Lib.hid hst
      clear hst hle hc HOK HR
      generalize L[i] = x at *
      unfold opV at *
      go_wp2_with (go_at_call 42; (with_reducible refine (HX.out _ (HW2.out.alloc _)).mono ?_); rintro e w1 ⟨rfl, hW⟩; have HW3 := Lib.hid hW; clear hW)
      go_roundw
      case rel => exact ⟨i + 1, by go_num, by omega, HW3.out.cast (by rw [HSt.out, List.append_assoc])⟩
      case measure => simp [intOf]; omega
    · as_aux_lemma =>
      have q0 : decide (i < L.length) = false := decide_eq_false hlt
      have HW3 : Hid (Ww B b (D ++ (numL (L.length : Int) ++ L.flatMap opC.enc)) u wr) := Lib.hid (HW2.out.cast (by rw [List.take_of_length_le (by omega), List.append_assoc]))
      clear HW2
      go_wp2
      go_end0
      exact ⟨rfl, HW3.out⟩
set_option maxRecDepth 100000 in
set_option maxHeartbeats 1000000 in
theorem listKv_any {B b : Nat} {D : Byt} {u : World} (L : List Kvr) (a : Option Addr) (cap : Nat) (hR : ∀ w', Below B u w' → RowsAt 6 kvV w' (.slice a L.length cap) L) (hok : L.length ≤ 10000 ∧ ∀ x ∈ L, kvC.ok x) (hd : D.length + (listL_ kvC.enc L).length ≤ 140737488355328) (W : World) (h : Ww B b D u W) :
    Calls Try.prog 74 #[.pointer (some ⟨b, 0, none⟩), .slice a L.length cap, .func (.func 75) #[.pointer (some ⟨b, 0, none⟩)] #[]] W fun e w' => e = .returned (.tuple #[]) ∧ Ww B b (D ++ listL_ kvC.enc L) u w' := by
  have hok1 := hok.1
  have HR := Lib.hid hR
  have HOK := Lib.hid hok.2
  have HW := Lib.hid h
  unfold listL_ at *
  rw [List.length_append] at hd
  have H0 := Lib.hid (nums1 (B := B) (b := b) (D := D) (u := u) (L.length : Int) (by unfold i64; omega) (by omega))
  clear hR h hok
  go_enter Try.func74, Try.ntmps74
  go_wp2_with (go_at_call 38; (with_reducible refine (H0.out _ HW.out _ rfl).mono ?_); rintro e w1 ⟨rfl, hW⟩; have HW1 := Lib.hid hW; clear hW)
  go_loopw [15] (fun v8 W => ∃ i : Nat, v8 = .int .i64 (i : Int) ∧ i ≤ L.length ∧ Ww B b (D ++ numL (L.length : Int) ++ (L.take i).flatMap kvC.enc) u W) (fun v8 _ => L.length - (intOf v8).toNat)
  case atStart => exact ⟨0, rfl, by omega, HW1.out.cast (by simp)⟩
  case round =>
    obtain ⟨i, rfl, hi', hW⟩ := hrel
    have HW2 := Lib.hid hW
    clear hW HW1 HW
    by_cases hlt : i < L.length
    · as_aux_lemma =>
      have q0 : decide (i < L.length) = true := decide_eq_true hlt
      obtain ⟨bb, off, rfl, hc⟩ := (HR.out wr HW2.out.bel).get i hlt
      have c0 : wr.cell? ⟨bb, off + i * 6, none⟩ = some _ := hc 0 _ rfl
      have c1 : wr.cell? ⟨bb, off + i * 6 + 1, none⟩ = some _ := hc 1 _ rfl
      have c2 : wr.cell? ⟨bb, off + i * 6 + 2, none⟩ = some _ := hc 2 _ rfl
      have c3 : wr.cell? ⟨bb, off + i * 6 + 3, none⟩ = some _ := hc 3 _ rfl
      have c4 : wr.cell? ⟨bb, off + i * 6 + 4, none⟩ = some _ := hc 4 _ rfl
      have c5 : wr.cell? ⟨bb, off + i * 6 + 5, none⟩ = some _ := hc 5 _ rfl
      have hst := flat_take1 kvC.enc L i hlt
      have hle := flat_take_le kvC.enc L (i + 1)
      rw [hst, List.length_append] at hle
      have HX := Lib.hid (kv_any (B := B) (b := b) (D := D ++ numL (L.length : Int) ++ (L.take i).flatMap kvC.enc) (u := u) L[i] (HOK.out _ (List.getElem_mem hlt)) (by simp only [List.length_append]; omega))
      have HSt := Lib.hid hst
      clear hst hle hc HOK HR
      generalize L[i] = x at *
      unfold kvV at *
      go_wp2_with (go_at_call 75; (with_reducible refine (HX.out _ (HW2.out.alloc _)).mono ?_); rintro e w1 ⟨rfl, hW⟩; have HW3 := Lib.hid hW; clear hW)
      go_roundw
      case rel => exact ⟨i + 1, by go_num, by omega, HW3.out.cast (by rw [HSt.out, List.append_assoc])⟩
      case measure => simp [intOf]; omega
    · as_aux_lemma =>
      have q0 : decide (i < L.length) = false := decide_eq_false hlt
      have HW3 : Hid (Ww B b (D ++ (numL (L.length : Int) ++ L.flatMap kvC.enc)) u wr) := Lib.hid (HW2.out.cast (by rw [List.take_of_length_le (by omega), List.append_assoc]))
      clear HW2
      go_wp2
      go_end0
      exact ⟨rfl, HW3.out⟩
set_option maxRecDepth 100000 in
set_option maxHeartbeats 1000000 in
theorem answer_any {B b : Nat} {D : Byt} {u : World} (p : Ans × Value) (hok : anC.ok p.1) (hK : ∀ w', Below B u w' → RowsAt 6 kvV w' p.2 p.1.kvs) (hd : D.length + (anC.enc p.1).length ≤ 140737488355328) (W : World) (h : Ww B b D u W) :
    Calls Try.prog 51 #[.pointer (some ⟨b, 0, none⟩), .agg (anV p).toArray] W fun e w' => e = .returned (.tuple #[]) ∧ Ww B b (D ++ anC.enc p.1) u w' := by
  obtain ⟨a, cap, hv⟩ := (hK _ h.bel).form
  obtain ⟨x, v⟩ := p
  simp only at hok hK hd hv ⊢
  subst hv
  have he : anC.enc x = numL x.kind ++ (listL_ kvC.enc x.kvs ++ (numL x.count ++ flagC.enc x.more)) := rfl
  rw [he] at hd ⊢
  simp only [List.length_append] at hd
  have HWa := h.alloc (.cells (anV (x, .slice a x.kvs.length cap)).toArray 99)
  have H0 := Lib.hid (nums1 (B := B) (b := b) (D := D) (u := W.alloc (.cells (anV (x, .slice a x.kvs.length cap)).toArray 99)) x.kind hok.1 (by omega))
  have H1 := Lib.hid (listKv_any (B := B) (b := b) (D := D ++ numL x.kind) (u := W.alloc (.cells (anV (x, .slice a x.kvs.length cap)).toArray 99)) x.kvs a cap (fun w' hb => hK w' (HWa.bel.trans hb)) hok.2.1 (by simp only [List.length_append]; omega))
  have H2 := Lib.hid (nums1 (B := B) (b := b) (D := D ++ numL x.kind ++ listL_ kvC.enc x.kvs) (u := W.alloc (.cells (anV (x, .slice a x.kvs.length cap)).toArray 99)) x.count hok.2.2.1 (by simp only [List.length_append]; omega))
  have H3 := Lib.hid (flags1 (B := B) (b := b) (D := D ++ numL x.kind ++ listL_ kvC.enc x.kvs ++ numL x.count) (u := W.alloc (.cells (anV (x, .slice a x.kvs.length cap)).toArray 99)) x.more (by simp only [List.length_append]; omega))
  have HW := Lib.hid HWa
  have HW0 := Lib.hid HWa.refl
  have HNE := Lib.hid h.new
  have hb0 := BlkAt.alloc_new W (anV (x, .slice a x.kvs.length cap)) 99
  have HB := Lib.hid hb0
  clear h hd hok he HWa hK
  have c0 := BlkAt.cell hb0 (i := 0) rfl
  clear hb0
  unfold anV at *
  simp only at *
  go_enter Try.func51, Try.ntmps51
  go_wp2_with (first
    | (go_at_call 38; (with_reducible refine (H0.out _ HW0.out _ (size1 _ _)).mono ?_); rintro e w1 ⟨rfl, hW⟩; have hk := hW.blk HB.out HNE.out (by decide); have c1 := BlkAt.cell hk (i := 1) rfl; clear hk; have HW1 := Lib.hid hW; clear hW)
    | (go_at_call 74; (with_reducible refine (H1.out _ HW1.out).mono ?_); rintro e w2 ⟨rfl, hW⟩; have hk := hW.blk HB.out HNE.out (by decide); have c2 := BlkAt.cell hk (i := 2) rfl; clear hk; have HW2 := Lib.hid hW; clear hW)
    | (go_at_call 38; (with_reducible refine (H2.out _ HW2.out _ rfl).mono ?_); rintro e w3 ⟨rfl, hW⟩; have hk := hW.blk HB.out HNE.out (by decide); have c3 := BlkAt.cell hk (i := 3) rfl; clear hk; have HW3 := Lib.hid hW; clear hW)
    | (go_at_call 49; (with_reducible refine (H3.out _ HW3.out _ rfl).mono ?_); rintro e w4 ⟨rfl, hW⟩; have HW4 := Lib.hid hW; clear hW))
  go_end0
  exact ⟨rfl, (HW.out.trans HW4.out).cast (by simp only [List.append_assoc])⟩
set_option maxRecDepth 100000 in
set_option maxHeartbeats 1000000 in
theorem listAnswer_any {B b : Nat} {D : Byt} {u : World} (L : List (Ans × Value)) (a : Option Addr) (cap : Nat) (hR : ∀ w', Below B u w' → RowsAt 4 anV w' (.slice a L.length cap) L) (hok : L.length ≤ 10000 ∧ ∀ x ∈ L, anC.ok x.1) (hKV : ∀ p ∈ L, ∀ w', Below B u w' → RowsAt 6 kvV w' p.2 p.1.kvs) (hd : D.length + (listL_ (fun p : Ans × Value => anC.enc p.1) L).length ≤ 140737488355328) (W : World) (h : Ww B b D u W) :
    Calls Try.prog 50 #[.pointer (some ⟨b, 0, none⟩), .slice a L.length cap, .func (.func 51) #[.pointer (some ⟨b, 0, none⟩)] #[]] W fun e w' => e = .returned (.tuple #[]) ∧ Ww B b (D ++ listL_ (fun p : Ans × Value => anC.enc p.1) L) u w' := by
  have hok1 := hok.1
  have HR := Lib.hid hR
  have HOK := Lib.hid hok.2
  have HW := Lib.hid h
  have HKV := Lib.hid hKV
  clear hKV
  unfold listL_ at *
  rw [List.length_append] at hd
  have H0 := Lib.hid (nums1 (B := B) (b := b) (D := D) (u := u) (L.length : Int) (by unfold i64; omega) (by omega))
  clear hR h hok
  go_enter Try.func50, Try.ntmps50
  go_wp2_with (go_at_call 38; (with_reducible refine (H0.out _ HW.out _ rfl).mono ?_); rintro e w1 ⟨rfl, hW⟩; have HW1 := Lib.hid hW; clear hW)
  go_loopw [15] (fun v8 W => ∃ i : Nat, v8 = .int .i64 (i : Int) ∧ i ≤ L.length ∧ Ww B b (D ++ numL (L.length : Int) ++ (L.take i).flatMap (fun p : Ans × Value => anC.enc p.1)) u W) (fun v8 _ => L.length - (intOf v8).toNat)
  case atStart => exact ⟨0, rfl, by omega, HW1.out.cast (by simp)⟩
  case round =>
    obtain ⟨i, rfl, hi', hW⟩ := hrel
    have HW2 := Lib.hid hW
    clear hW HW1 HW
    by_cases hlt : i < L.length
    · as_aux_lemma =>
      have q0 : decide (i < L.length) = true := decide_eq_true hlt
      obtain ⟨bb, off, rfl, hc⟩ := (HR.out wr HW2.out.bel).get i hlt
      have c0 : wr.cell? ⟨bb, off + i * 4, none⟩ = some _ := hc 0 _ rfl
      have c1 : wr.cell? ⟨bb, off + i * 4 + 1, none⟩ = some _ := hc 1 _ rfl
      have c2 : wr.cell? ⟨bb, off + i * 4 + 2, none⟩ = some _ := hc 2 _ rfl
      have c3 : wr.cell? ⟨bb, off + i * 4 + 3, none⟩ = some _ := hc 3 _ rfl
      have hst := flat_take1 (fun p : Ans × Value => anC.enc p.1) L i hlt
      have hle := flat_take_le (fun p : Ans × Value => anC.enc p.1) L (i + 1)
      rw [hst, List.length_append] at hle
      have HX := Lib.hid (answer_any (B := B) (b := b) (D := D ++ numL (L.length : Int) ++ (L.take i).flatMap (fun p : Ans × Value => anC.enc p.1)) (u := u) L[i] (HOK.out _ (List.getElem_mem hlt)) (HKV.out _ (List.getElem_mem hlt)) (by simp only [List.length_append]; omega))
      have hks := (HKV.out _ (List.getElem_mem hlt) wr HW2.out.bel).form
      have HSt := Lib.hid hst
      clear hst hle hc HOK HR HKV
      generalize L[i] = x at *
      obtain ⟨xa, xv⟩ := x
      obtain ⟨ka, kc, hks⟩ := hks
      simp only at hks
      subst hks
      unfold anV at *
      go_wp2_with (go_at_call 51; (with_reducible refine (HX.out _ (HW2.out.alloc _)).mono ?_); rintro e w1 ⟨rfl, hW⟩; have HW3 := Lib.hid hW; clear hW)
      go_roundw
      case rel => exact ⟨i + 1, by go_num, by omega, HW3.out.cast (by rw [HSt.out, List.append_assoc])⟩
      case measure => simp [intOf]; omega
    · as_aux_lemma =>
      have q0 : decide (i < L.length) = false := decide_eq_false hlt
      have HW3 : Hid (Ww B b (D ++ (numL (L.length : Int) ++ L.flatMap (fun p : Ans × Value => anC.enc p.1))) u wr) := Lib.hid (HW2.out.cast (by rw [List.take_of_length_le (by omega), List.append_assoc]))
      clear HW2
      go_wp2
      go_end0
      exact ⟨rfl, HW3.out⟩
end Go.Proofs.Ytlcblkmmkphpmaa
