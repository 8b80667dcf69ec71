/- The walk of the statement PackReads. Conditions: none. -/
import Derived.Test.YtlbacddgjagcbaaPackG
import Derived.Test.YtlbacddgjagcbaaPackBack
import Derived.ChangeSlices
namespace Go.Proofs.Ytlbacddgjagcbaa
open Go.RowKit

/-- What is known of a list of numbers that came in. -/
def IntsAt (w : World) (v : Value) (L : List Int) : Prop :=
  ∃ a cap, v = .slice a L.length cap ∧ ∀ i, i < L.length → ∃ b off, a = some ⟨b, off, none⟩ ∧ w.cell? ⟨b, off + i, none⟩ = some (.int .i64 (L.getD i 0))
theorem IntsAt.grew {w w' : World} {v : Value} {L : List Int} (h : IntsAt w v L) (hb : Below w.heap.size w w') : IntsAt w' v L := by
  obtain ⟨a, cap, hv, hc⟩ := h
  refine ⟨a, cap, hv, fun i hi => ?_⟩
  obtain ⟨b, off, h1, h2⟩ := hc i hi
  exact ⟨b, off, h1, Grew.cell hb h2⟩
theorem ints_get {w : World} {a : Option Addr} {n cap : Nat} {L : List Int} (h : IntsAt w (.slice a n cap) L) (i : Nat) (hi : i < L.length) :
    ∃ b off, a = some ⟨b, off, none⟩ ∧ w.cell? ⟨b, off + i, none⟩ = some (.int .i64 L[i]) := by
  obtain ⟨a', cap', hv, hc⟩ := h
  simp only [Value.slice.injEq] at hv
  obtain ⟨rfl, _, _⟩ := hv
  obtain ⟨b, off, h1, h2⟩ := hc i hi
  refine ⟨b, off, h1, ?_⟩
  rw [h2]
  simp [List.getD, hi]
def IsInts (w : World) (v : Value) : Prop := ∃ (L : List Int) (a : Option Addr) (cap : Nat), v = .slice a L.length cap ∧ L.length ≤ cap ∧ cap ≤ maxLen ∧ IntsAt w v L ∧ ∀ n ∈ L, (Lit.int .i64 n).wf = true
open Go.WideShapes Go.ChangeShapes in
theorem open_ints' {P : Program} {t e : TypeId} (ht : P.underlying t = some (.slice e)) (he : P.underlying e = some (.int .i64)) (hc1 : P.cellsOf e = 1) {H : Type} {enc : TypeId × Value → H} {w : World} {r : Reach} {base : Nat} {v : Value} {d : DataW H} {p : List MemPlace}
    (hv : Value.okWide P w r base t v) (h : DataW.Trod enc P w 0 (fun _ => true) true t v d p) : IsInts w v := by
  obtain ⟨a0, len, cap, rfl⟩ := okWide_slice ht hv
  obtain ⟨fuel, hf⟩ := h
  rcases open_ints ht he hc1 hf with ⟨hcs, _⟩ | ⟨a, len', cap', zs, hcs, _, hl, hm, hss, _, hc, hs⟩
  · simp [Value.cells] at hcs
    obtain ⟨rfl, rfl, rfl⟩ := hcs
    exact ⟨[], none, 0, rfl, by simp, by simp, ⟨none, 0, rfl, fun i hi => by simp at hi⟩, by simp⟩
  · simp [Value.cells] at hcs
    obtain ⟨rfl, rfl, rfl⟩ := hcs
    have hss' : zs.length = cap := by simpa using hss
    have hlen : (zs.take len).length = len := by simp; omega
    refine ⟨zs.take len, some a, cap, by rw [hlen], by rw [hlen]; exact hl, hm, ⟨some a, cap, by rw [hlen], fun i hi => ?_⟩, fun s h => hs s (List.mem_of_mem_take h)⟩
    rw [hlen] at hi
    have hci := hc i (by omega)
    obtain ⟨b, off, spot⟩ := a
    have hsp : spot = none := by
      cases spot with
      | none => rfl
      | some x =>
        have h0 := hc 0 (by omega)
        simp [World.cell?, Addr.add] at h0
        split at h0 <;> simp at h0
    subst hsp
    refine ⟨b, off, rfl, ?_⟩
    have ha : (⟨b, off, none⟩ : Addr).add i = ⟨b, off + i, none⟩ := by unfold Addr.add; split <;> simp_all
    rw [ha] at hci
    rw [hci]
    simp [List.getD, hi, show i < zs.length by omega]
theorem cells3 : Try.prog.cellsOf 3 = 1 := by kernel_rfl

theorem textsR_len (k : Nat) : ∀ (D : List (List UInt8)) (r : Rd), (textsR k D r).2.l.length ≤ r.l.length := by
  induction k with
  | zero => intro D r; exact Nat.le_refl _
  | succ k ih =>
    intro D r
    have h1 := textR_len r
    have h2 := ih (D ++ [(textR r).1]) (textR r).2
    unfold textsR
    split
    · exact h1
    · omega
theorem listR_len (r : Rd) : (listR r).2.l.length ≤ r.l.length := by
  have h1 := numR_len r
  unfold listR
  split
  · exact h1
  · split
    · exact h1
    · have := textsR_len (numR r).1.toNat [] (numR r).2
      omega
theorem strs_grown {w w' : World} {a : Option Addr} {n cap c : Nat} {L : List (List UInt8)} (h : StrsAt w (.slice a n cap) L) (hg : w.grownBy w' (some c)) (hne : ∀ p, a = some p → p.block ≠ c) : StrsAt w' (.slice a n cap) L := by
  obtain ⟨a', cap', hv, hc⟩ := h
  simp only [Value.slice.injEq] at hv
  obtain ⟨rfl, rfl, rfl⟩ := hv
  refine ⟨a, cap, rfl, fun i hi => ?_⟩
  obtain ⟨b, off, h1, h2⟩ := hc i hi
  exact ⟨b, off, h1, hg.cell h2 (fun e => hne _ h1 (by cases e; rfl))⟩
theorem rd_other {T : TypeId} {b c : Nat} {r : Rd} {w w' : World} (h : RdAt T b r w) (hg : w.grownBy w' (some c)) (hne : b ≠ c) : RdAt T b r w' := h.grown hg (fun e => hne (by cases e; rfl))

set_option maxRecDepth 100000 in
set_option maxHeartbeats 1600000 in
theorem packReads_walk (w : World) (data : ByteArray) (va : Value) (hd : data.size ≤ maxLen) (ha : IsInts w va) :
    Calls Try.prog 7 #[.string data, va] w fun e w' => e = .returned (.bool true) ∧ Below w.heap.size w w' := by
  obtain ⟨A, a, ca, rfl, hla, hca, hA, hwA⟩ := ha
  obtain ⟨l, rfl⟩ : ∃ l, data = bs l := ⟨_, (bs_of data).symm⟩
  have hz := bs_size l
  have hmx : l.length ≤ 9223372036854775807 := by rw [← hz]; exact hd
  have hAl : A.length ≤ 9223372036854775807 := Nat.le_trans hla hca
  by_cases h100 : l.length ≤ 20000
  · go_enter Try.func7, Try.ntmps7
    go_wp2_with (fail)
    refine (read_any _ _).mono ?_
    rintro e w1 ⟨rfl, hR1, hb1⟩
    have hlt1 := hR1.lt
    have hb2 : Below w.heap.size w (w1.alloc (.cells #[.string (bs l), .int .i64 0] 43)) := hb1.alloc hb1.size _
    have hR2 : RdAt 91 w.heap.size ⟨l, 0⟩ (w1.alloc (.cells #[.string (bs l), .int .i64 0] 43)) := rd_below hR1 ((Below.refl _ w1).alloc (Nat.le_refl _) _)
    have hX2 : RdAt 43 w1.heap.size ⟨l, 0⟩ (w1.alloc (.cells #[.string (bs l), .int .i64 0] 43)) := heap_alloc_new w1 _
    clear hR1 hb1
    go_wp2
    go_loopw [7] (fun vi wr => ∃ (i : Nat) (rr : Rd), vi = .int .i64 i ∧ i ≤ A.length ∧ i ≤ 60 ∧ rr.l.length ≤ 20000 ∧ RdAt 91 w.heap.size rr wr ∧ RdAt 43 w1.heap.size rr wr ∧ Below w.heap.size w wr) (fun vi _ => 60 - (intOf vi).toNat)
    case atStart => exact ⟨0, ⟨l, 0⟩, rfl, by omega, by omega, h100, hR2, hX2, hb2⟩
    case round =>
      obtain ⟨i, rr, rfl, hi, hi60, hrl, hR, hX, hb⟩ := hrel
      clear hR2 hX2 hb2
      by_cases h : i < A.length
      · by_cases h60 : i < 60
        · obtain ⟨bb, off, rfl, hcell⟩ := ints_get (hA.grew hb) i h
          have hk := bounds_i64 (hwA _ (List.getElem_mem h))
          generalize A[i] = k at *
          have hrl9 : rr.l.length ≤ 9223372036854775807 := by omega
          by_cases hk0 : k = 0
          · as_aux_lemma =>
            subst hk0
            have hnl := numR_len rr
            have HN := Lib.hid (numRead_any w.heap.size rr wr hR hrl9)
            have HM := Lib.hid (fun w2 (h2 : RdAt 43 w1.heap.size rr w2) => refNum_any w1.heap.size rr w2 h2 hrl9)
            generalize numR rr = nr at *
            obtain ⟨n, r2⟩ := nr
            simp only at hnl HN HM
            go_wp2_with (fail)
            refine HN.out.mono ?_
            rintro e w2 ⟨rfl, hR2, hg2⟩
            have hX2 := rd_other hX hg2 (by omega)
            go_wp2_with (fail)
            refine (HM.out w2 hX2).mono ?_
            rintro e w3 ⟨rfl, hX3, hg3⟩
            have hR3 := rd_other hR2 hg3 (by omega)
            have B3 := below_grown (below_grown hb hg2 (Nat.le_refl _) hR.lt) hg3 (by omega) hX2.lt
            clear hR hX hR2 hX2 hg2 hg3 hb hcell
            go_wp2_with (fail)
            refine (end_any _ _ _ hR3).mono ?_
            rintro e w5 ⟨rfl, rfl⟩
            go_wp2_with (fail)
            refine (refEnd_any _ _ _ hX3).mono ?_
            rintro e w6 ⟨rfl, rfl⟩
            go_wp2
            go_roundw
            case rel => exact ⟨i + 1, r2, by go_num, by omega, by omega, by omega, hR3, hX3, B3⟩
            case measure => simp [intOf]; omega
          · by_cases hk1 : k = 1
            · as_aux_lemma =>
              subst hk1
              have hnl := textR_len rr
              have HN := Lib.hid (textRead_any w.heap.size rr wr hR hrl9)
              have HM := Lib.hid (fun w2 (h2 : RdAt 43 w1.heap.size rr w2) => refText_any w1.heap.size rr w2 h2 hrl9)
              generalize textR rr = nr at *
              obtain ⟨n, r2⟩ := nr
              simp only at hnl HN HM
              go_wp2_with (fail)
              refine HN.out.mono ?_
              rintro e w2 ⟨rfl, hR2, hg2⟩
              have hX2 := rd_other hX hg2 (by omega)
              go_wp2_with (fail)
              refine (HM.out w2 hX2).mono ?_
              rintro e w3 ⟨rfl, hX3, hg3⟩
              have hR3 := rd_other hR2 hg3 (by omega)
              have B3 := below_grown (below_grown hb hg2 (Nat.le_refl _) hR.lt) hg3 (by omega) hX2.lt
              clear hR hX hR2 hX2 hg2 hg3 hb hcell
              go_wp2_with (fail)
              refine (end_any _ _ _ hR3).mono ?_
              rintro e w5 ⟨rfl, rfl⟩
              go_wp2_with (fail)
              refine (refEnd_any _ _ _ hX3).mono ?_
              rintro e w6 ⟨rfl, rfl⟩
              go_wp2
              go_roundw
              case rel => exact ⟨i + 1, r2, by go_num, by omega, by omega, by omega, hR3, hX3, B3⟩
              case measure => simp [intOf]; omega
            · as_aux_lemma =>
              have h0' : ((k : Int) == 0) = false := by rw [beq_eq_false_iff_ne]; exact hk0
              have h1' : ((k : Int) == 1) = false := by rw [beq_eq_false_iff_ne]; exact hk1
              clear hk0 hk1
              have hnl := listR_len rr
              have HN := Lib.hid (listRead_any w.heap.size rr wr hR hrl9)
              have HM := Lib.hid (fun w2 (h2 : RdAt 43 w1.heap.size rr w2) => refListRead_any w1.heap.size rr w2 h2 hrl9)
              unfold ListSaid at HN HM
              generalize listR rr = nr at *
              obtain ⟨n, r2⟩ := nr
              simp only at hnl HN HM
              go_wp2_with (fail)
              refine HN.out.mono ?_
              rintro e w2 ⟨a2, cap2, rfl, hS2, hn2, hR2, hg2, hp2⟩
              have hX2 := rd_other hX hg2 (by omega)
              go_wp2_with (fail)
              refine (HM.out w2 hX2).mono ?_
              rintro e w3 ⟨a3, cap3, rfl, hS3, hn3, hX3, hg3, _⟩
              have hR3 := rd_other hR2 hg3 (by omega)
              have B3 := below_grown (below_grown hb hg2 (Nat.le_refl _) hR.lt) hg3 (by omega) hX2.lt
              have hS2' := strs_grown hS2 hg3 (fun p hp => by have h1 := hp2 p hp; have h2 := hX.lt; omega)
              clear hR hX hR2 hX2 hg2 hg3 hb hcell
              go_wp2_with (fail)
              refine (same_any n n a2 a3 cap2 cap3 w3 hS2' hS3 (by omega) (by omega)).mono ?_
              rintro e w4 ⟨rfl, hb4⟩
              rw [same_refl]
              have hR4 := rd_below hR3 hb4
              have hX4 := rd_below hX3 hb4
              have B4 := B3.trans (hb4.mono B3.size)
              clear hR3 hX3 hb4 B3 hS2' hS3
              go_wp2_with (fail)
              refine (end_any _ _ _ hR4).mono ?_
              rintro e w5 ⟨rfl, rfl⟩
              go_wp2_with (fail)
              refine (refEnd_any _ _ _ hX4).mono ?_
              rintro e w6 ⟨rfl, rfl⟩
              go_wp2
              go_roundw
              case rel => exact ⟨i + 1, r2, by go_num, by omega, by omega, by omega, hR4, hX4, B4⟩
              case measure => simp [intOf]; omega
        · as_aux_lemma =>
          go_wp2_with (fail)
          refine (awake_any _).mono ?_
          rintro e w12 ⟨rfl, hb12⟩
          go_wp2
          go_ret
          exact ⟨rfl, hb.trans (hb12.mono hb.size)⟩
      · as_aux_lemma =>
        go_wp2_with (fail)
        refine (awake_any _).mono ?_
        rintro e w12 ⟨rfl, hb12⟩
        go_wp2
        go_ret
        exact ⟨rfl, hb.trans (hb12.mono hb.size)⟩
  · as_aux_lemma =>
    go_enter Try.func7, Try.ntmps7
    go_wp2_with (fail)
    refine (awake_any w).mono ?_
    rintro e w10 ⟨rfl, hb10⟩
    go_wp2
    go_ret
    exact ⟨rfl, hb10⟩
end Go.Proofs.Ytlbacddgjagcbaa
