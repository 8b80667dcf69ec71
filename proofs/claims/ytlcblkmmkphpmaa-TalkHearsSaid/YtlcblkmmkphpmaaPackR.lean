/- The walks of the readers, the program's and the reference's. Conditions: as each theorem says. -/
import Derived.Test.YtlcblkmmkphpmaaPackL
import Derived.Lib.BufferAt
import Derived.Lib.Zigzag
namespace Go.Proofs.Ytlcblkmmkphpmaa
open Go.RowKit

/-- A reader in block b of the call's own: what is left, what is wrong. -/
def RdAt (T : TypeId) (b : Nat) (r : Rd) (w : World) : Prop := w.heap[b]? = some (.cells #[.string (bs r.l), .int .i64 (r.e : Int)] T (0, 0))
theorem RdAt.c0 {T : TypeId} {b : Nat} {r : Rd} {w : World} (h : RdAt T b r w) : w.cell? ⟨b, 0, none⟩ = some (.string (bs r.l)) := by rw [Lib.cell_of_heap h]; rfl
theorem RdAt.c1 {T : TypeId} {b : Nat} {r : Rd} {w : World} (h : RdAt T b r w) : w.cell? ⟨b, 1, none⟩ = some (.int .i64 (r.e : Int)) := by rw [Lib.cell_of_heap h]; rfl
theorem RdAt.f {T : TypeId} {b : Nat} {r : Rd} {w : World} (h : RdAt T b r w) (j : Nat) : w.frozen? ⟨b, j, none⟩ = false := Lib.frozen_of_heap h j
theorem RdAt.lt {T : TypeId} {b : Nat} {r : Rd} {w : World} (h : RdAt T b r w) : b < w.heap.size := by
  rcases Nat.lt_or_ge b w.heap.size with h' | h'
  · exact h'
  · unfold RdAt at h; simp [Array.getElem?_eq_none h'] at h
theorem RdAt.set0 {T : TypeId} {b : Nat} {r : Rd} {w : World} (h : RdAt T b r w) (l : List UInt8) : RdAt T b ⟨l, r.e⟩ (w.setCell ⟨b, 0, none⟩ (.string (bs l))) := by
  have := Lib.heap_setCell_same (i := 0) h (.string (bs l))
  exact this
theorem RdAt.set1 {T : TypeId} {b : Nat} {r : Rd} {w : World} (h : RdAt T b r w) (e : Nat) : RdAt T b ⟨r.l, e⟩ (w.setCell ⟨b, 1, none⟩ (.int .i64 (e : Int))) := by
  have := Lib.heap_setCell_same (i := 1) h (.int .i64 (e : Int))
  exact this
theorem RdAt.grown {T : TypeId} {b : Nat} {r : Rd} {w w' : World} {row : Option Nat} (h : RdAt T b r w) (hg : w.grownBy w' row) (hne : some b ≠ row) : RdAt T b r w' := by
  unfold RdAt at h ⊢
  rw [hg.block b (RdAt.lt h) hne]; exact h
theorem grown_set (w : World) (b i : Nat) (v : Value) : w.grownBy (w.setCell ⟨b, i, none⟩ v) (some b) :=
  ⟨rfl, rfl, rfl, by simp [World.setCell], fun k _ hk => Below.heap_setCell _ _ _ _ (fun e => hk (by simp [e]))⟩
theorem grown_refl (w : World) (row : Option Nat) : w.grownBy w row := ⟨rfl, rfl, rfl, Nat.le_refl _, fun _ _ _ => rfl⟩
theorem grown_trans {a w w' : World} {row : Option Nat} (h : a.grownBy w row) (k : w.grownBy w' row) : a.grownBy w' row :=
  ⟨k.os.trans h.os, k.tape.trans h.tape, k.output.trans h.output, Nat.le_trans h.size k.size, fun i hi hr => (k.block i (Nat.lt_of_lt_of_le hi h.size) hr).trans (h.block i hi hr)⟩

theorem numR_e (r : Rd) (h : r.e ≠ 0) : numR r = (0, r) := by unfold numR; rw [if_pos h]
theorem numR_of (r : Rd) (i u : Nat) (h : r.e = 0) (hd : dec 0 0 r.l = dec i u (r.l.drop i)) {k v : Nat} {q : List UInt8} (hk : dec i u (r.l.drop i) = (k, v, q)) : numR r = if k = 0 then (unzig v, ⟨q, 0⟩) else (0, ⟨r.l, k⟩) := by
  unfold numR; rw [if_neg (by omega), hd, hk]
theorem numR_end (r : Rd) (i u : Nat) (h : r.e = 0) (hd : dec 0 0 r.l = dec i u (r.l.drop i)) (hi : r.l.length ≤ i) : numR r = (0, ⟨r.l, 10⟩) := by
  have := numR_of r i u h hd (k := 10) (v := 0) (q := []) (by rw [List.drop_eq_nil_of_le hi]; rfl)
  rw [this]; rfl
theorem numR_bad (r : Rd) (i u : Nat) (h : r.e = 0) (hd : dec 0 0 r.l = dec i u (r.l.drop i)) (hi : i < r.l.length) (x : UInt8) (hx : r.l[i] = x) (hb : (i = 9 ∧ 1 < x.toNat) ∨ (0 < i ∧ x.toNat = 0)) : numR r = (0, ⟨r.l, 11⟩) := by
  have e : r.l.drop i = x :: r.l.drop (i + 1) := by rw [← hx]; exact List.drop_eq_getElem_cons hi
  have := numR_of r i u h hd (k := 11) (v := 0) (q := x :: r.l.drop (i + 1)) (by rw [e, dec, if_pos hb])
  rw [this]; rfl
theorem numR_ok (r : Rd) (i u : Nat) (h : r.e = 0) (hd : dec 0 0 r.l = dec i u (r.l.drop i)) (hi : i < r.l.length) (x : UInt8) (hx : r.l[i] = x) (hb : ¬ ((i = 9 ∧ 1 < x.toNat) ∨ (0 < i ∧ x.toNat = 0))) (h128 : x.toNat < 128) :
    numR r = (unzig (u + x.toNat * 2 ^ (7 * i)), ⟨r.l.drop (i + 1), 0⟩) := by
  have e : r.l.drop i = x :: r.l.drop (i + 1) := by rw [← hx]; exact List.drop_eq_getElem_cons hi
  have := numR_of r i u h hd (k := 0) (v := u + x.toNat * 2 ^ (7 * i)) (q := r.l.drop (i + 1)) (by rw [e, dec, if_neg hb, if_pos h128])
  rw [this]; rfl
theorem dec_next (l : List UInt8) (i u : Nat) (hd : dec 0 0 l = dec i u (l.drop i)) (hi : i < l.length) (h9 : i ≠ 9) (x : UInt8) (hx : l[i] = x) (hb : ¬ ((i = 9 ∧ 1 < x.toNat) ∨ (0 < i ∧ x.toNat = 0))) (h128 : ¬ x.toNat < 128) :
    dec 0 0 l = dec (i + 1) (u + (x.toNat - 128) * 2 ^ (7 * i)) (l.drop (i + 1)) := by
  have e : l.drop i = x :: l.drop (i + 1) := by rw [← hx]; exact List.drop_eq_getElem_cons hi
  rw [hd, e, dec, if_neg hb, if_neg h128, if_neg h9]

theorem andNot128 (x : UInt8) : bits .andNot .u8 (x.toNat : Int) 128 = ((x.toNat % 128 : Nat) : Int) := by
  have key : ∀ y : Fin 256, bits .andNot .u8 (y.val : Int) 128 = ((y.val % 128 : Nat) : Int) := by decide +kernel
  exact key ⟨x.toNat, x.toNat_lt⟩
theorem and127 (x : UInt8) : bits .and .u8 (x.toNat : Int) 127 = ((x.toNat % 128 : Nat) : Int) := by
  have key : ∀ y : Fin 256, bits .and .u8 (y.val : Int) 127 = ((y.val % 128 : Nat) : Int) := by decide +kernel
  exact key ⟨x.toNat, x.toNat_lt⟩
theorem shl_lt (m i : Nat) (hm : m < 128) (hi : i ≤ 9) (h9 : i = 9 → m ≤ 1) : m * 2 ^ (7 * i) < 18446744073709551616 := by
  rcases Nat.lt_or_ge i 9 with h | h
  · have h2 : 2 ^ (7 * i) ≤ 2 ^ 56 := Nat.pow_le_pow_right (by omega) (by omega)
    have e : (2 : Nat) ^ 56 = 72057594037927936 := by decide
    have : m * 2 ^ (7 * i) ≤ 127 * 2 ^ 56 := Nat.mul_le_mul (by omega) h2
    omega
  · obtain rfl : i = 9 := by omega
    have := h9 rfl
    have e : (2 : Nat) ^ (7 * 9) = 9223372036854775808 := by decide
    rw [e]
    have : m * 9223372036854775808 ≤ 1 * 9223372036854775808 := Nat.mul_le_mul_right _ (by omega)
    omega
theorem acc_or (u m i : Nat) (hu : u < 2 ^ (7 * i)) (hm : m < 128) (hi : i ≤ 9) (h9 : i = 9 → m ≤ 1) :
    bits .or .u64 (u : Int) (IntKind.u64.wrap (IntKind.u64.wrap (m : Int) * 2 ^ (7 * i))) = ((u + m * 2 ^ (7 * i) : Nat) : Int) := by
  have hl := shl_lt m i hm hi h9
  have e1 : IntKind.u64.wrap (m : Int) = (m : Int) := by rw [wrapU64]; omega
  have e2 : (m : Int) * 2 ^ (7 * i) = ((m * 2 ^ (7 * i) : Nat) : Int) := by push_cast; rfl
  have hu2 : u < 18446744073709551616 := by
    have h2 : 2 ^ (7 * i) ≤ 2 ^ 63 := Nat.pow_le_pow_right (by omega) (by omega)
    have e : (2 : Nat) ^ 63 = 9223372036854775808 := by decide
    omega
  have e3 : IntKind.u64.wrap ((m * 2 ^ (7 * i) : Nat) : Int) = ((m * 2 ^ (7 * i) : Nat) : Int) := by rw [wrapU64]; omega
  rw [e1, e2, e3, u64_or_nat _ _ hu2 hl]
  congr 1
  have h := Nat.shiftLeft_add_eq_or_of_lt hu m
  rw [Nat.shiftLeft_eq] at h
  rw [Nat.or_comm, ← h]; omega
theorem acc_lt (u m i : Nat) (hu : u < 2 ^ (7 * i)) (hm : m < 128) : u + m * 2 ^ (7 * i) < 2 ^ (7 * (i + 1)) := by
  have : m * 2 ^ (7 * i) ≤ 127 * 2 ^ (7 * i) := Nat.mul_le_mul_right _ (by omega)
  have e : 2 ^ (7 * (i + 1)) = 128 * 2 ^ (7 * i) := by rw [Nat.mul_add, Nat.pow_add]; omega
  omega
theorem xor0 (x : Nat) (hx : x < 9223372036854775808) : bits .xor .i64 (x : Int) 0 = (x : Int) := by
  show IntKind.i64.wrap ((BitVec.ofInt 64 (x : Int) ^^^ BitVec.ofInt 64 0).toNat : Int) = _
  have h2 : (BitVec.ofInt 64 (x : Int)).toNat = x := by
    rw [BitVec.ofInt_natCast, BitVec.toNat_ofNat]; exact Nat.mod_eq_of_lt (by omega)
  have h1 : (BitVec.ofInt 64 0).toNat = 0 := by decide
  rw [BitVec.toNat_xor, h1, h2, Nat.xor_zero, IntKind.wrap_i64]
  omega
theorem xorM1 (x : Nat) (hx : x < 9223372036854775808) : bits .xor .i64 (x : Int) (-1) = -1 - (x : Int) := by
  have h := Lib.i64_not x hx
  have e : bits .xor .i64 (x : Int) (-1) = bits .xor .i64 (-1) (x : Int) := by
    show IntKind.i64.wrap ((BitVec.ofInt 64 (x : Int) ^^^ BitVec.ofInt 64 (-1)).toNat : Int) = IntKind.i64.wrap ((BitVec.ofInt 64 (-1) ^^^ BitVec.ofInt 64 (x : Int)).toNat : Int)
    rw [BitVec.toNat_xor, BitVec.toNat_xor, Nat.xor_comm]
  rw [e, h]; omega
theorem unzigW (u : Nat) (hu : u < 18446744073709551616) : bits .xor .i64 ((u : Int) / 2) (wrap64 (-wrap64 (bits .and .u64 (u : Int) 1))) = unzig u := by
  have e1 : (u : Int) / 2 = ((u / 2 : Nat) : Int) := by omega
  have e2 : bits .and .u64 (u : Int) 1 = (u : Int) % 2 := Lib.u64_and1 _ (by omega) (by omega)
  rw [e1, e2]
  unfold unzig
  by_cases h : u % 2 = 0
  · have e3 : wrap64 (-wrap64 ((u : Int) % 2)) = 0 := by
      have : (u : Int) % 2 = 0 := by omega
      rw [this]; simp [wrap64]
    rw [e3, xor0 _ (by omega), if_pos h]
  · have e3 : wrap64 (-wrap64 ((u : Int) % 2)) = -1 := by
      have : (u : Int) % 2 = 1 := by omega
      rw [this]; simp [wrap64]
    rw [e3, xorM1 _ (by omega), if_neg h]
set_option maxRecDepth 100000 in
theorem well_any (T : TypeId) (b : Nat) (r : Rd) (w : World) (h : RdAt 111 b r w) :
    Calls Try.prog 79 #[.pointer (some ⟨b, 0, none⟩)] w fun e w' => e = .returned (.bool (decide (r.e = 0))) ∧ w' = w := by
  have c1 := h.c1
  by_cases h0 : r.e = 0
  · rw [h0] at c1 ⊢
    go_enter Try.func79, Try.ntmps79
    go_wp2
    go_ret
    exact ⟨rfl, rfl⟩
  · have h1 : ((r.e : Int) == 0) = false := by rw [beq_eq_false_iff_ne]; omega
    rw [decide_eq_false h0]
    go_enter Try.func79, Try.ntmps79
    go_wp2
    go_ret
    exact ⟨rfl, rfl⟩
set_option maxRecDepth 100000 in
theorem fails_any (b : Nat) (r : Rd) (k : Nat) (w : World) (h : RdAt 111 b r w) :
    Calls Try.prog 80 #[.pointer (some ⟨b, 0, none⟩), .int .i64 (k : Int)] w fun e w' => e = .returned (.tuple #[]) ∧ RdAt 111 b ⟨r.l, k⟩ w' ∧ w.grownBy w' (some b) := by
  have c1 := h.c1
  have f1 := h.f 1
  go_enter Try.func80, Try.ntmps80
  go_wp2
  go_end0
  exact ⟨rfl, h.set1 k, grown_set _ _ _ _⟩

set_option maxRecDepth 100000 in
set_option maxHeartbeats 400000 in
theorem numRead_any (b : Nat) (r : Rd) (w : World) (h : RdAt 111 b r w) (hl : r.l.length ≤ 9223372036854775807) :
    Calls Try.prog 60 #[.pointer (some ⟨b, 0, none⟩)] w fun e w' => e = .returned (.int .i64 (numR r).1) ∧ RdAt 111 b (numR r).2 w' ∧ w.grownBy w' (some b) := by
  have hw := well_any 111 b r w h
  by_cases he : r.e = 0
  · rw [decide_eq_true he] at hw
    have Hw := Lib.hid hw
    have c0 := h.c0
    have f0 := h.f 0
    have hz := bs_size r.l
    clear hw
    go_enter Try.func60, Try.ntmps60
    go_wp2_with (fail)
    refine Hw.out.mono ?_
    rintro e w1 ⟨rfl, rfl⟩
    go_wp2
    go_loop [3, 9] (fun vu vi => ∃ (u i : Nat), vu = .int .u64 u ∧ vi = .int .i64 i ∧ i ≤ 9 ∧ i ≤ r.l.length ∧ u < 2 ^ (7 * i) ∧ dec 0 0 r.l = dec i u (r.l.drop i)) (fun _ vi => 10 - (intOf vi).toNat)
    case atStart => exact ⟨0, 0, rfl, rfl, by omega, by omega, by simp, by simp⟩
    case round =>
      obtain ⟨u, i, rfl, rfl, hi9, hil, hu, hdec⟩ := hrel
      have Hu := Lib.hid hu
      have Hd := Lib.hid hdec
      clear hu hdec
      by_cases hlt : i < r.l.length
      · have hg := bs_get r.l i (by omega)
        have hbl := (r.l[i]).toNat_lt
        generalize hx : r.l[i] = x at *
        have Hx := Lib.hid hx
        clear hx
        by_cases hbad : (i = 9 ∧ 1 < x.toNat) ∨ (0 < i ∧ x.toNat = 0)
        · have HR := Lib.hid (numR_bad r i u he Hd.out hlt x Hx.out hbad)
          have HF := Lib.hid (fails_any b r 11 w1 h)
          have HB := Lib.hid hbad
          clear hbad
          by_cases hi9' : i = 9
          · have hi3 : ((i : Int) == 9) = true := by rw [beq_iff_eq]; omega
            have hi1 : 8 < i := by omega
            by_cases hx1 : 1 < x.toNat
            · as_aux_lemma =>
              clear hi9'
              go_wp2_with (fail)
              refine HF.out.mono ?_
              rintro e w2 ⟨rfl, hR2, hg2⟩
              go_wp2
              go_ret
              exact ⟨by rw [HR.out]; rfl, by rw [HR.out]; exact hR2, hg2⟩
            · as_aux_lemma =>
              have hx0 : ((x.toNat : Int) == 0) = true := by have := HB.out; rw [beq_iff_eq]; omega
              clear hi9'
              go_wp2_with (fail)
              refine HF.out.mono ?_
              rintro e w2 ⟨rfl, hR2, hg2⟩
              go_wp2
              go_ret
              exact ⟨by rw [HR.out]; rfl, by rw [HR.out]; exact hR2, hg2⟩
          · as_aux_lemma =>
            have hi3 : ((i : Int) == 9) = false := by rw [beq_eq_false_iff_ne]; omega
            have hx0 : ((x.toNat : Int) == 0) = true := by have := HB.out; rw [beq_iff_eq]; omega
            have hi1 : 0 < i := by have := HB.out; omega
            have hi2 : i < 9 := by omega
            clear hi9'
            go_wp2_with (fail)
            refine HF.out.mono ?_
            rintro e w2 ⟨rfl, hR2, hg2⟩
            go_wp2
            go_ret
            exact ⟨by rw [HR.out]; rfl, by rw [HR.out]; exact hR2, hg2⟩
        · have hacc := acc_or u (x.toNat % 128) i Hu.out (by omega) hi9 (by omega)
          have hvl := acc_lt u (x.toNat % 128) i Hu.out (by omega)
          rw [← andNot128] at hacc
          generalize hv : u + x.toNat % 128 * 2 ^ (7 * i) = v at hacc hvl
          have HV := Lib.hid hv
          have HVL := Lib.hid hvl
          clear hv hvl
          by_cases h128 : x.toNat < 128
          · have HR := Lib.hid (numR_ok r i u he Hd.out hlt x Hx.out hbad h128)
            have hv64 : v < 18446744073709551616 := by
              have h1 := shl_lt
              have h2 := HV.out
              have h3 := shl_lt (x.toNat % 128) i (by omega) hi9 (by omega)
              have h4 := HVL.out
              by_cases h9 : i = 9
              · subst h9
                have h5 := Hu.out
                have e : (2 : Nat) ^ (7 * 9) = 9223372036854775808 := by decide
                rw [e] at h5 h2
                have : x.toNat % 128 * 9223372036854775808 ≤ 1 * 9223372036854775808 := Nat.mul_le_mul_right _ (by omega)
                omega
              · have h5 : 2 ^ (7 * (i + 1)) ≤ 2 ^ 63 := Nat.pow_le_pow_right (by omega) (by omega)
                have e : (2 : Nat) ^ 63 = 9223372036854775808 := by decide
                omega
            have HZ := Lib.hid (unzigW v hv64)
            have HV2 : Hid (v = u + x.toNat * 2 ^ (7 * i)) := by
              have h2 := HV.out
              have : x.toNat % 128 = x.toNat := by omega
              rw [this] at h2; exact h2.symm
            have HS := h.set0 (r.l.drop (i + 1))
            have HE : Hid ((bs r.l).extract (i + 1) r.l.length = bs (r.l.drop (i + 1))) := by
              show _ = _
              rw [bs_extract, List.take_of_length_le (by rw [List.length_drop]; omega)]
            have HB := Lib.hid hbad
            clear hbad
            by_cases hi0 : i = 0
            · as_aux_lemma =>
              have hi1 : (i : Int) < 1 := by omega
              have hi3 : ((i : Int) == 9) = false := by rw [beq_eq_false_iff_ne]; omega
              clear hi0
              go_wp2
              go_ret
              refine ⟨?_, ?_, grown_set _ _ _ _⟩
              · rw [HR.out, ← HV2.out, ← HZ.out]; rfl
              · rw [HR.out, HE.out]; rw [he] at HS; exact HS
            · by_cases hi9' : i = 9
              · as_aux_lemma =>
                have hx0 : 0 < x.toNat := by have := HB.out; omega
                have hx2 : x.toNat ≤ 1 := by have := HB.out; omega
                have hx1 : ((x.toNat : Int) == 0) = false := by rw [beq_eq_false_iff_ne]; omega
                have hi1 : 8 < i := by omega
                have hi3 : ((i : Int) == 9) = true := by rw [beq_iff_eq]; omega
                clear hi0 hi9'
                go_wp2
                go_ret
                refine ⟨?_, ?_, grown_set _ _ _ _⟩
                · rw [HR.out, ← HV2.out, ← HZ.out]; rfl
                · rw [HR.out, HE.out]; rw [he] at HS; exact HS
              · as_aux_lemma =>
                have hx0 : 0 < x.toNat := by have := HB.out; omega
                have hx1 : ((x.toNat : Int) == 0) = false := by rw [beq_eq_false_iff_ne]; omega
                have hi1 : 0 < i := by omega
                have hi2 : i < 9 := by omega
                have hi3 : ((i : Int) == 9) = false := by rw [beq_eq_false_iff_ne]; omega
                clear hi0 hi9'
                go_wp2
                go_ret
                refine ⟨?_, ?_, grown_set _ _ _ _⟩
                · rw [HR.out, ← HV2.out, ← HZ.out]; rfl
                · rw [HR.out, HE.out]; rw [he] at HS; exact HS
          · have hi2 : i < 9 := by omega
            have HN : Hid (dec 0 0 r.l = dec (i + 1) v (r.l.drop (i + 1))) := by
              have h1 := dec_next r.l i u Hd.out hlt (by omega) x Hx.out hbad h128
              have h2 := HV.out
              have : x.toNat % 128 = x.toNat - 128 := by omega
              rw [this] at h2
              rw [h2] at h1; exact h1
            have hi3 : ((i : Int) == 9) = false := by rw [beq_eq_false_iff_ne]; omega
            have hx1 : ((x.toNat : Int) == 0) = false := by rw [beq_eq_false_iff_ne]; omega
            clear hbad
            by_cases hi0 : i = 0
            · as_aux_lemma =>
              have hi1 : (i : Int) < 1 := by omega
              clear hi0
              go_wp2
              go_round
              case rel => exact ⟨v, i + 1, by first | rfl | (rw [hacc]), by go_num, by omega, by omega, HVL.out, HN.out⟩
              case measure => simp [intOf]; omega
            · as_aux_lemma =>
              have hi1 : 0 < i := by omega
              clear hi0
              go_wp2
              go_round
              case rel => exact ⟨v, i + 1, by first | rfl | (rw [hacc]), by go_num, by omega, by omega, HVL.out, HN.out⟩
              case measure => simp [intOf]; omega
      · as_aux_lemma =>
        have HR := Lib.hid (numR_end r i u he Hd.out (by omega))
        have HF := Lib.hid (fails_any b r 10 w1 h)
        go_wp2_with (fail)
        refine HF.out.mono ?_
        rintro e w2 ⟨rfl, hR2, hg2⟩
        go_wp2
        go_ret
        exact ⟨by rw [HR.out]; rfl, by rw [HR.out]; exact hR2, hg2⟩
  · as_aux_lemma =>
    rw [decide_eq_false he] at hw
    have HR := Lib.hid (numR_e r he)
    have Hw := Lib.hid hw
    clear hw
    go_enter Try.func60, Try.ntmps60
    go_wp2_with (fail)
    refine Hw.out.mono ?_
    rintro e w1 ⟨rfl, rfl⟩
    go_wp2
    go_ret
    exact ⟨by rw [HR.out]; rfl, by rw [HR.out]; exact h, grown_refl _ _⟩
end Go.Proofs.Ytlcblkmmkphpmaa
