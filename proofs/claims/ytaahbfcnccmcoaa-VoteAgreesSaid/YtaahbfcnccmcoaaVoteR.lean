/- The law VoteRises, walked. Conditions: as each theorem says. -/
import Derived.Test.YtaahbfcnccmcoaaVoteQ
namespace Go.Proofs.Ytaahbfcnccmcoaa
open Go.RowKit

theorem grown_new {w a b : World} {g : Nat} (h : Below w.heap.size w a) (k : a.grownBy b (some g)) (hg : w.heap.size ≤ g) : Below w.heap.size w b := h.grown k h.size (by intro k hk; simp only [Option.some.injEq] at hk; omega)
theorem who_good (x : WhoS) (h : ¬ badNew x.me x.nodes x.z x.ep) : ∃ m k : Nat, x.me = (m : Int) ∧ x.nodes = (k : Int) ∧ 1 ≤ k ∧ k ≤ 7 ∧ m < k ∧ 0 ≤ x.ep ∧ 0 ≤ x.z.1 ∧ 0 ≤ x.z.2 := by
  unfold badNew at h
  refine ⟨x.me.toNat, x.nodes.toNat, ?_, ?_, ?_, ?_, ?_, ?_, ?_, ?_⟩ <;> omega
theorem op_at {w : World} {b off : Nat} {o : OpS} (h : w.rangeAt b off (opCells o)) : w.cell? ⟨b, off, none⟩ = some (.bool o.b) ∧ w.cell? ⟨b, off + 1, none⟩ = some (.int .i64 o.f) ∧ w.cell? ⟨b, off + 2, none⟩ = some (.int .i64 o.v.b.l) ∧ w.cell? ⟨b, off + 3, none⟩ = some (.int .i64 o.v.b.e) ∧ w.cell? ⟨b, off + 4, none⟩ = some (.int .i64 o.v.b.c) ∧ w.cell? ⟨b, off + 5, none⟩ = some (.int .i64 o.v.b.p) ∧ w.cell? ⟨b, off + 6, none⟩ = some (.int .i64 o.v.round) ∧ w.cell? ⟨b, off + 7, none⟩ = some (.int .i64 o.v.state) :=
  ⟨h 0 _ rfl, h 1 _ rfl, h 2 _ rfl, h 3 _ rfl, h 4 _ rfl, h 5 _ rfl, h 6 _ rfl, h 7 _ rfl⟩
theorem six_at {w : World} {B : Nat} {T : TypeId} {v : Vot} (h : BlkAt B T (votCells v) w) : w.cell? ⟨B, 0, none⟩ = some (.int .i64 v.b.l) ∧ w.cell? ⟨B, 1, none⟩ = some (.int .i64 v.b.e) ∧ w.cell? ⟨B, 2, none⟩ = some (.int .i64 v.b.c) ∧ w.cell? ⟨B, 3, none⟩ = some (.int .i64 v.b.p) ∧ w.cell? ⟨B, 4, none⟩ = some (.int .i64 v.round) ∧ w.cell? ⟨B, 5, none⟩ = some (.int .i64 v.state) :=
  ⟨h.cell rfl, h.cell rfl, h.cell rfl, h.cell rfl, h.cell rfl, h.cell rfl⟩
theorem one_at {w : World} {B : Nat} {T : TypeId} {o : OpS} (h : BlkAt B T (opCells o) w) : w.cell? ⟨B, 0, none⟩ = some (.bool o.b) ∧ w.cell? ⟨B, 1, none⟩ = some (.int .i64 o.f) ∧ w.cell? ⟨B, 2, none⟩ = some (.int .i64 o.v.b.l) ∧ w.cell? ⟨B, 3, none⟩ = some (.int .i64 o.v.b.e) ∧ w.cell? ⟨B, 4, none⟩ = some (.int .i64 o.v.b.c) ∧ w.cell? ⟨B, 5, none⟩ = some (.int .i64 o.v.b.p) ∧ w.cell? ⟨B, 6, none⟩ = some (.int .i64 o.v.round) ∧ w.cell? ⟨B, 7, none⟩ = some (.int .i64 o.v.state) :=
  ⟨h.cell rfl, h.cell rfl, h.cell rfl, h.cell rfl, h.cell rfl, h.cell rfl, h.cell rfl, h.cell rfl⟩
set_option maxRecDepth 100000 in
set_option maxHeartbeats 3200000 in
theorem rises_any (x : WhoS) (L : List OpS) (a : Option Addr) (cap : Nat) (w : World) (hL : OpsAt w (.slice a L.length cap) L) (hn : L.length ≤ maxLen) :
    Calls Try.prog 8 #[whoV x, .slice a L.length cap] w fun e w' => e = .returned (.bool true) ∧ Below w.heap.size w w' := by
  unfold maxLen at hn
  have HO := Lib.hid (fun w2 (h : Below w.heap.size w w2) => hL.grew h)
  have hb1 := Lib.hid (alloc_below w)
  clear hL
  unfold whoV
  by_cases hbad : badNew x.me x.nodes x.z x.ep
  · as_aux_lemma =>
    have HNB := Lib.hid (fun W => new_bad x.me x.nodes x.z x.ep hbad W)
    clear hbad
    go_enter Try.func8, Try.ntmps8
    go_wp2_with (fail)
    refine (HNB.out _).mono ?_
    rintro e w1 ⟨rfl, hB1⟩
    have B1 := (hb1.out _).trans (hB1.mono (by simp))
    clear hB1
    go_wp2_with (fail)
    refine (vawake_any _).mono ?_
    rintro e w9 ⟨rfl, hb9⟩
    go_wp2
    go_ret
    exact ⟨rfl, B1.trans (hb9.mono B1.size)⟩
  · obtain ⟨m, k, hm, hk, h1, h7, hmk, hep, hz1, hz2⟩ := who_good x hbad
    have HNG := Lib.hid (fun W => new_any m k x.z x.ep h1 h7 hmk hep hz1 hz2 W)
    have Hfit0 := Lib.hid (new_fit m k ⟨m, x.z.1, x.z.2, x.ep⟩ h1 h7 hmk)
    rw [hm, hk]
    have HVo := Lib.hid (fun g p W hW => voteM_any g p W hW)
    unfold ptrV at HNG HVo
    unfold votV at HVo
    clear hbad hm hk h1 h7 hmk hep hz1 hz2
    go_enter Try.func8, Try.ntmps8
    go_wp2_with (fail)
    refine (HNG.out _).mono ?_
    rintro e w1 ⟨g, rfl, hg, hP1, hB1⟩
    have hgw : w.heap.size ≤ g := by simp at hg; omega
    have B1 := Lib.hid ((hb1.out _).trans (hB1.mono (by simp)))
    have HP1 := Lib.hid hP1
    clear hB1 hP1 hg
    go_wp2_with (fail)
    go_loopw [7] (fun vi wr => ∃ (i : Nat) (p : Poll), vi = .int .i64 (i : Int) ∧ i ≤ L.length ∧ i ≤ 100 ∧ p.fit ∧ 0 ≤ p.round ∧ p.round ≤ 1099511627776 + i ∧ PollAt g p wr ∧ Below w.heap.size w wr) (fun vi _ => L.length - (intOf vi).toNat)
    case atStart => exact ⟨0, _, rfl, by omega, by omega, Hfit0.out, by simp [newP, freshP], by simp [newP, freshP], HP1.out, B1.out⟩
    case round =>
      obtain ⟨i, p, rfl, hi, hi100, hpf, hr0, hr1, hP, hbr⟩ := hrel
      have HPf := Lib.hid hpf
      have HP := Lib.hid hP
      have Hbr := Lib.hid hbr
      have hgl : g < wr.heap.size := BlkAt.lt hP
      clear hpf hP hbr
      by_cases h : i < L.length ∧ i < 100
      · obtain ⟨h, h100⟩ := h
        have d0 : decide (i < L.length) = true := decide_eq_true h
        have d1 : decide ((i : Int) < 100) = true := decide_eq_true (by omega)
        obtain ⟨bb, off, rfl, hrg⟩ := ops_get (HO.out wr Hbr.out) i h
        generalize L[i] = o at *
        obtain ⟨c0, c1, c2, c3, c4, c5, c6, c7⟩ := op_at hrg
        have HOb := Lib.hid (BlkAt.alloc_new wr (opCells o) 58)
        have HPo := Lib.hid (BlkAt.grew HP.out (alloc_below wr (.cells (opCells o).toArray 58)))
        have Hbo := Lib.hid (Hbr.out.alloc Hbr.out.size (.cells (opCells o).toArray 58))
        clear hrg
        by_cases hv : o.v.round ≤ 1099511627776
        · have hv2 : o.v.round ≤ 1099511627776 := hv
          clear hv
          go_wp2_with (fail)
          refine (HVo.out g p _ HPo.out).mono ?_
          rintro e w2 ⟨rfl, hb2⟩
          have hO2 := BlkAt.grew HOb.out hb2
          obtain ⟨c0, c1, c2, c3, c4, c5, c6, c7⟩ := one_at hO2
          have HO2 := Lib.hid hO2
          have hlo : wr.heap.size < w2.heap.size := BlkAt.lt hO2
          have HP2 := Lib.hid (BlkAt.grew HPo.out hb2)
          have Hb2 := Lib.hid (Hbo.out.trans (hb2.mono Hbo.out.size))
          have HP2a := Lib.hid (fun ob => BlkAt.grew HP2.out (alloc_below w2 ob))
          have HW2a := Lib.hid (BlkAt.alloc_new w2 (votCells (voteOf p)) 55)
          have HO2a := Lib.hid (fun ob => BlkAt.grew HO2.out (alloc_below w2 ob))
          have Hb2a := Lib.hid (fun ob => Hb2.out.alloc Hb2.out.size ob)
          clear hb2 hO2
          cases hob : o.b with
          | true =>
            as_aux_lemma =>
            rw [hob] at c0
            have HBg := Lib.hid (fun W hW => begin_any g p HPf.out hr0 (by omega) W hW)
            unfold ptrV at HBg
            go_wp2_with (fail)
            refine (HBg.out _ (HP2a.out _)).mono ?_
            rintro e w3 ⟨rfl, hP3, hG3⟩
            obtain ⟨p2, hp2⟩ : ∃ p2, p2 = beginP p := ⟨_, rfl⟩
            have hr2a : p.round + 1 ≤ p2.round := by rw [hp2]; exact Int.le_refl _
            have hr2b : p2.round ≤ p.round + 1 := by rw [hp2]; exact Int.le_refl _
            have HPf2 := Lib.hid (begin_fit p HPf.out)
            rw [← hp2] at hP3 HPf2
            clear hp2
            have HP3 := Lib.hid hP3
            have Hb3 := Lib.hid (grown_new (Hb2a.out _) hG3 hgw)
            have HO3 := Lib.hid (BlkAt.grown (HO2a.out _) hG3 (by intro h; simp only [Option.some.injEq] at h; omega))
            have HW3 := Lib.hid (BlkAt.grown HW2a.out hG3 (by intro h; simp only [Option.some.injEq] at h; omega))
            clear hP3 hG3 c0 c1 c2 c3 c4 c5 c6 c7
            have HV2 := Lib.hid (HVo.out g p2 w3 HP3.out)
            simp only [voteOf] at HV2

            have d3 : decide (p2.round < p.round) = false := decide_eq_false (by omega)
            have d4 : (p2.round == p.round) = false := by rw [beq_eq_false_iff_ne]; omega
            go_wp2_with (fail)
            refine HV2.out.mono ?_
            rintro e w4 ⟨rfl, hb4⟩
            have HP4 := Lib.hid (BlkAt.grew HP3.out hb4)
            have Hb4 := Lib.hid (Hb3.out.trans (hb4.mono Hb3.out.size))
            have HO4 := BlkAt.grew HO3.out hb4
            have HW4 := BlkAt.grew HW3.out hb4
            obtain ⟨s0, s1, s2, s3, s4, s5⟩ := six_at HW4
            obtain ⟨o0, _, _, _, _, _, _, _⟩ := one_at HO4
            have ho4 : wr.heap.size < w4.heap.size := BlkAt.lt HO4
            have hw4 : w2.heap.size < w4.heap.size := BlkAt.lt HW4
            rw [hob] at o0
            have Hal := Lib.hid (alloc_below w4)
            clear hb4 HO4 HW4
            simp only [voteOf] at s0 s1 s2 s3 s4 s5
            skip
            have HP5 := Lib.hid (fun o => BlkAt.grew HP4.out (Hal.out o))
            have Hb5 := Lib.hid (fun o => Hb4.out.alloc Hb4.out.size o)
            go_wp2
            go_roundw
            case rel => exact ⟨i + 1, p2, by go_num, by omega, by omega, HPf2.out, by omega, by omega, HP5.out _, Hb5.out _⟩
            case measure => simp [intOf]; omega
          | false =>
            rw [hob] at c0
            have HTk := Lib.hid (fun W hW => take_any g p HPf.out o.f o.v W hW)
            unfold ptrV votV at HTk
            obtain ⟨p2, hp2⟩ : ∃ p2, p2 = (stepP p o.f o.v).1 := ⟨_, rfl⟩
            obtain ⟨r2, hr2'⟩ : ∃ r2, r2 = (stepP p o.f o.v).2 := ⟨_, rfl⟩
            obtain ⟨l1, l2, l3, l4⟩ := step_law p o.f o.v
            have HPf2 := Lib.hid (step_fit p o.f o.v HPf.out)
            rw [← hp2] at HTk l1 l2 l3 l4 HPf2
            rw [← hr2'] at HTk l3
            have L2 := Lib.hid l2
            have L3 := Lib.hid l3
            have hr4 : p2.round ≤ 1099511627776 + (i + 1) := by rcases l4 with h | h <;> omega
            clear l2 l3 l4 hp2 hr2'
            go_wp2_with (fail)
            refine (HTk.out _ (HP2a.out _)).mono ?_
            rintro e w3 ⟨rfl, hP3, hG3⟩
            have HP3 := Lib.hid hP3
            have Hb3 := Lib.hid (grown_new (Hb2a.out _) hG3 hgw)
            have HO3 := Lib.hid (BlkAt.grown (HO2a.out _) hG3 (by intro h; simp only [Option.some.injEq] at h; omega))
            have HW3 := Lib.hid (BlkAt.grown HW2a.out hG3 (by intro h; simp only [Option.some.injEq] at h; omega))
            clear hP3 hG3 c0 c1 c2 c3 c4 c5 c6 c7

            by_cases hr : r2 ≠ 2
            · as_aux_lemma =>
              have hvo : voteOf p2 = voteOf p := by unfold voteOf; rw [(L3.out hr).1, (L3.out hr).2]
              have HV2 := Lib.hid (HVo.out g p2 w3 HP3.out)
              rw [hvo] at HV2
              simp only [voteOf] at HV2
              have hrr : p2.round = p.round := (L3.out hr).2
              have hr5 : 0 ≤ p2.round := by omega
              have HLB := Lib.hid (fun W => lbetter_any (voteOf p) (voteOf p) W)
              rw [show betterB (voteOf p).b (voteOf p).b = false from betterB_irrefl _] at HLB
              unfold votV voteOf at HLB
              simp only at HLB

              have d2 : (r2 == 2) = false := by rw [beq_eq_false_iff_ne]; exact hr
              have d2' : (r2 != 2) = true := by rw [bne_iff_ne]; exact hr
              have d3 : decide (p.round < p.round) = false := decide_eq_false (by omega)
              have hcmp : ∀ W, (binOp .neq 55 (votV (voteOf p)) (votV (voteOf p))).run Try.prog W = .ok (.bool false) W := fun W => run_neq_vot (voteOf p) W
              unfold votV voteOf at hcmp
              clear hr hrr hvo
              simp only at hcmp
              go_wp2_with (fail)
              refine HV2.out.mono ?_
              rintro e w4 ⟨rfl, hb4⟩
              have HP4 := Lib.hid (BlkAt.grew HP3.out hb4)
              have Hb4 := Lib.hid (Hb3.out.trans (hb4.mono Hb3.out.size))
              have HO4 := BlkAt.grew HO3.out hb4
              have HW4 := BlkAt.grew HW3.out hb4
              obtain ⟨s0, s1, s2, s3, s4, s5⟩ := six_at HW4
              obtain ⟨o0, _, _, _, _, _, _, _⟩ := one_at HO4
              have ho4 : wr.heap.size < w4.heap.size := BlkAt.lt HO4
              have hw4 : w2.heap.size < w4.heap.size := BlkAt.lt HW4
              rw [hob] at o0
              have Hal := Lib.hid (alloc_below w4)
              have HWc : Hid (∀ j v, (votCells (voteOf p))[j]? = some v → w4.cell? ⟨w2.heap.size, j, none⟩ = some v) := fun j v hj => HW4.cell hj
              have HOc : Hid (w4.cell? ⟨wr.heap.size, 0, none⟩ = some (.bool o.b)) := HO4.cell rfl
              clear hb4 HO4 HW4
              simp only [voteOf] at s0 s1 s2 s3 s4 s5
              skip
              go_wp2_with (fail)
              refine (HLB.out _).mono ?_
              rintro e w5 ⟨rfl, hb5⟩
              have Hb5 := Lib.hid ((Hb4.out.trans ((Hal.out _).mono Hb4.out.size)).trans (hb5.mono (Nat.le_trans Hb4.out.size (by simp))))
              have hnb : BlkAt w4.heap.size 55 (votCells (voteOf p)) w5 := BlkAt.grew (BlkAt.alloc_new w4 (votCells (voteOf p)) 55) hb5
              have hwb : ∀ j v, (votCells (voteOf p))[j]? = some v → w5.cell? ⟨w2.heap.size, j, none⟩ = some v := fun j v hj => Grew.cell hb5 (Grew.cell (Hal.out _) (HWc.out j v hj))
              have hoc : w5.cell? ⟨wr.heap.size, 0, none⟩ = some (.bool o.b) := Grew.cell hb5 (Grew.cell (Hal.out _) HOc.out)
              rw [hob] at hoc
              have HP5 := Lib.hid (BlkAt.grew (BlkAt.grew HP4.out (Hal.out _)) hb5)
              obtain ⟨m0, m1, m2, m3, m4, m5⟩ := six_at hnb
              have v0 := hwb 0 _ rfl
              have v1 := hwb 1 _ rfl
              have v2 := hwb 2 _ rfl
              have v3 := hwb 3 _ rfl
              have v4 := hwb 4 _ rfl
              have v5 := hwb 5 _ rfl
              simp only [voteOf] at m0 m1 m2 m3 m4 m5 v0 v1 v2 v3 v4 v5
              clear hnb hwb hb5 s0 s1 s2 s3 s4 s5 o0
              go_wp2
              go_roundw
              case rel => exact ⟨i + 1, p2, by go_num, by omega, by omega, HPf2.out, by omega, by omega, HP5.out, Hb5.out⟩
              case measure => simp [intOf]; omega
            · have hr' : r2 = 2 := by omega
              subst hr'
              clear hr
              by_cases hq : p2.round = p.round
              · as_aux_lemma =>
                have HV2 := Lib.hid (HVo.out g p2 w3 HP3.out)
                simp only [voteOf] at HV2

                have HLB := Lib.hid (fun W => lbetter_any (voteOf p) (voteOf p2) W)
                rw [show betterB (voteOf p).b (voteOf p2).b = false from L2.out hq] at HLB
                unfold votV voteOf at HLB
                simp only at HLB
                have d3 : decide (p2.round < p.round) = false := decide_eq_false (by omega)
                have d4 : (p2.round == p.round) = true := by rw [beq_iff_eq]; exact hq
                have hr5 : 0 ≤ p2.round := by omega
                clear hq
                go_wp2_with (fail)
                refine HV2.out.mono ?_
                rintro e w4 ⟨rfl, hb4⟩
                have HP4 := Lib.hid (BlkAt.grew HP3.out hb4)
                have Hb4 := Lib.hid (Hb3.out.trans (hb4.mono Hb3.out.size))
                have HO4 := BlkAt.grew HO3.out hb4
                have HW4 := BlkAt.grew HW3.out hb4
                obtain ⟨s0, s1, s2, s3, s4, s5⟩ := six_at HW4
                obtain ⟨o0, _, _, _, _, _, _, _⟩ := one_at HO4
                have ho4 : wr.heap.size < w4.heap.size := BlkAt.lt HO4
                have hw4 : w2.heap.size < w4.heap.size := BlkAt.lt HW4
                rw [hob] at o0
                have Hal := Lib.hid (alloc_below w4)
                have HWc : Hid (∀ j v, (votCells (voteOf p))[j]? = some v → w4.cell? ⟨w2.heap.size, j, none⟩ = some v) := fun j v hj => HW4.cell hj
                have HOc : Hid (w4.cell? ⟨wr.heap.size, 0, none⟩ = some (.bool o.b)) := HO4.cell rfl
                clear hb4 HO4 HW4
                simp only [voteOf] at s0 s1 s2 s3 s4 s5
                skip
                go_wp2_with (fail)
                refine (HLB.out _).mono ?_
                rintro e w5 ⟨rfl, hb5⟩
                have Hb5 := Lib.hid ((Hb4.out.trans ((Hal.out _).mono Hb4.out.size)).trans (hb5.mono (Nat.le_trans Hb4.out.size (by simp))))
                have hnb : BlkAt w4.heap.size 55 (votCells (voteOf p2)) w5 := BlkAt.grew (BlkAt.alloc_new w4 (votCells (voteOf p2)) 55) hb5
                have hwb : ∀ j v, (votCells (voteOf p))[j]? = some v → w5.cell? ⟨w2.heap.size, j, none⟩ = some v := fun j v hj => Grew.cell hb5 (Grew.cell (Hal.out _) (HWc.out j v hj))
                have hoc : w5.cell? ⟨wr.heap.size, 0, none⟩ = some (.bool o.b) := Grew.cell hb5 (Grew.cell (Hal.out _) HOc.out)
                rw [hob] at hoc
                have HP5 := Lib.hid (BlkAt.grew (BlkAt.grew HP4.out (Hal.out _)) hb5)
                obtain ⟨m0, m1, m2, m3, m4, m5⟩ := six_at hnb
                have v0 := hwb 0 _ rfl
                have v1 := hwb 1 _ rfl
                have v2 := hwb 2 _ rfl
                have v3 := hwb 3 _ rfl
                have v4 := hwb 4 _ rfl
                have v5 := hwb 5 _ rfl
                simp only [voteOf] at m0 m1 m2 m3 m4 m5 v0 v1 v2 v3 v4 v5
                clear hnb hwb hb5 s0 s1 s2 s3 s4 s5 o0
                go_wp2
                go_roundw
                case rel => exact ⟨i + 1, p2, by go_num, by omega, by omega, HPf2.out, by omega, by omega, HP5.out, Hb5.out⟩
                case measure => simp [intOf]; omega
              · as_aux_lemma =>
                have HV2 := Lib.hid (HVo.out g p2 w3 HP3.out)
                simp only [voteOf] at HV2

                have d3 : decide (p2.round < p.round) = false := decide_eq_false (by omega)
                have d4 : (p2.round == p.round) = false := by rw [beq_eq_false_iff_ne]; exact hq
                have hr5 : 0 ≤ p2.round := by omega
                clear hq
                go_wp2_with (fail)
                refine HV2.out.mono ?_
                rintro e w4 ⟨rfl, hb4⟩
                have HP4 := Lib.hid (BlkAt.grew HP3.out hb4)
                have Hb4 := Lib.hid (Hb3.out.trans (hb4.mono Hb3.out.size))
                have HO4 := BlkAt.grew HO3.out hb4
                have HW4 := BlkAt.grew HW3.out hb4
                obtain ⟨s0, s1, s2, s3, s4, s5⟩ := six_at HW4
                obtain ⟨o0, _, _, _, _, _, _, _⟩ := one_at HO4
                have ho4 : wr.heap.size < w4.heap.size := BlkAt.lt HO4
                have hw4 : w2.heap.size < w4.heap.size := BlkAt.lt HW4
                rw [hob] at o0
                have Hal := Lib.hid (alloc_below w4)
                clear hb4 HO4 HW4
                simp only [voteOf] at s0 s1 s2 s3 s4 s5
                skip
                have HP5 := Lib.hid (fun o => BlkAt.grew HP4.out (Hal.out o))
                have Hb5 := Lib.hid (fun o => Hb4.out.alloc Hb4.out.size o)
                go_wp2
                go_roundw
                case rel => exact ⟨i + 1, p2, by go_num, by omega, by omega, HPf2.out, by omega, by omega, HP5.out _, Hb5.out _⟩
                case measure => simp [intOf]; omega

        · as_aux_lemma =>
          have hv2 : 1099511627776 < o.v.round := by omega
          clear hv
          go_wp2_with (fail)
          refine (vawake_any _).mono ?_
          rintro e w9 ⟨rfl, hb9⟩
          go_wp2
          go_ret
          exact ⟨rfl, Hbo.out.trans (hb9.mono Hbo.out.size)⟩
      · as_aux_lemma =>
        have hd : Hid (i = L.length ∨ i = 100) := by show _ ∨ _; omega
        by_cases h2 : i < L.length
        · have d0 : decide (i < L.length) = true := decide_eq_true h2
          have d1 : decide ((i : Int) < 100) = false := decide_eq_false (by omega)
          clear h
          go_wp2_with (fail)
          refine (vawake_any _).mono ?_
          rintro e w9 ⟨rfl, hb9⟩
          go_wp2
          go_ret
          exact ⟨rfl, Hbr.out.trans (hb9.mono Hbr.out.size)⟩
        · have d0 : decide (i < L.length) = false := decide_eq_false h2
          clear h
          go_wp2_with (fail)
          refine (vawake_any _).mono ?_
          rintro e w9 ⟨rfl, hb9⟩
          go_wp2
          go_ret
          exact ⟨rfl, Hbr.out.trans (hb9.mono Hbr.out.size)⟩
/-- THE LAW. -/
theorem voteRises_walk (W : World) (v0 v1 : Value) (h0 : IsWho v0) (h1 : IsOps W v1) :
    Calls Try.prog 8 #[v0, v1] W fun e w' => e = .returned (.bool true) ∧ Below W.heap.size W w' := by
  obtain ⟨x, rfl⟩ := h0
  obtain ⟨L, a, cap, rfl, h1', h2', h3⟩ := h1
  exact rises_any x L a cap W h3 (Nat.le_trans h1' h2')
end Go.Proofs.Ytaahbfcnccmcoaa
