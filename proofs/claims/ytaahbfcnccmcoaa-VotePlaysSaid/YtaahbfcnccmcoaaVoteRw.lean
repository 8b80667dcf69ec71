/- The walk of the reference's Won. Conditions: as each theorem says. -/
import Derived.Test.YtaahbfcnccmcoaaVoteTl
namespace Go.Proofs.Ytaahbfcnccmcoaa
open Go.RowKit

def voteQ (r : Rp) (i : Nat) : Bool := r.told.getD i false && decide (r.what.getD i zeroBal = r.now)
def votesR (r : Rp) (k : Nat) : Nat := (List.range k).countP (voteQ r)
def folQ (r : Rp) (j : Int) (i : Nat) : Bool := decide (r.state.getD i 0 ≠ 0) && decide (r.whom.getD i 0 = j)
def folR (r : Rp) (j : Int) (k : Nat) : Nat := (List.range k).countP (folQ r j)
def leadsR (r : Rp) (i : Nat) : Bool := decide (r.nodes / 2 < folR r (i : Int) r.nodes) && (decide (r.state.getD i 0 = 3) && decide (r.whom.getD i 0 = (i : Int)))
def wonR (r : Rp) : Int × Bool := if r.nodes / 2 < votesR r r.nodes then (r.now.l, true) else match (List.range r.nodes).find? (leadsR r) with | some i => ((i : Int), true) | none => (0, false)
theorem votesR_step (r : Rp) (k : Nat) : votesR r (k + 1) = votesR r k + if voteQ r k = true then 1 else 0 := by
  unfold votesR
  rw [List.range_succ, List.countP_append]
  simp [List.countP_cons]
theorem folR_step (r : Rp) (j : Int) (k : Nat) : folR r j (k + 1) = folR r j k + if folQ r j k = true then 1 else 0 := by
  unfold folR
  rw [List.range_succ, List.countP_append]
  simp [List.countP_cons]
theorem votesR_le (r : Rp) (k : Nat) : votesR r k ≤ k := by
  unfold votesR
  exact Nat.le_trans List.countP_le_length (by simp)
theorem folR_le (r : Rp) (j : Int) (k : Nat) : folR r j k ≤ k := by
  unfold folR
  exact Nat.le_trans List.countP_le_length (by simp)
set_option maxRecDepth 100000 in
theorem run_eq_rb (a b : Bal) (W : World) : (binOp .eql RbT (.agg a.cells.toArray) (.agg b.cells.toArray)).run Try.prog W = .ok (.bool (decide (a = b))) W := by
  obtain ⟨a1, a2, a3, a4⟩ := a
  obtain ⟨b1, b2, b3, b4⟩ := b
  unfold Bal.cells
  go_simp
  by_cases h1 : a1 = b1 <;> by_cases h2 : a2 = b2 <;> by_cases h3 : a3 = b3 <;> by_cases h4 : a4 = b4 <;> simp [h1, h2, h3, h4]
section
variable {F : Nat → Prop} {g : Nat} {r : Rp} {w : World}
set_option maxRecDepth 100000 in
set_option maxHeartbeats 3200000 in
theorem rwon_any (h : RpIn F g r w) (hf : r.fit) :
    Calls Try.prog 36 #[ptrV g] w fun e w' => e = .returned (.tuple #[.int .i64 (wonR r).1, .bool (wonR r).2]) ∧ Below w.heap.size w w' := by
  obtain ⟨bt, bw, bs, bh, h⟩ := h
  have hn1 := hf.n1
  have hn7 := hf.n7
  have htl := hf.told
  have hwl := hf.what
  have hsl := hf.state
  have hhl := hf.whom
  have c1 := h.head.cell (i := 1) (v := .int .i64 r.nodes) rfl
  have HR := Lib.hid h
  clear h hf
  unfold ptrV
  go_enter Try.func36, Try.ntmps36
  go_wp2_with (fail)
  go_loopw [4, 5] (fun v4 v5 wr => ∃ (i : Nat), v5 = .int .i64 (i : Int) ∧ i ≤ r.nodes ∧ v4 = .int .i64 (votesR r i : Int) ∧ Below w.heap.size w wr) (fun _ v5 _ => r.nodes - (intOf v5).toNat)
  case atStart => exact ⟨0, rfl, by omega, by simp [votesR], Below.refl _ _⟩
  case round =>
    obtain ⟨i, rfl, hi, rfl, hbr⟩ := hrel
    have Hbr := Lib.hid hbr
    have hRr := HR.out.grew hbr
    have HRr := Lib.hid hRr
    have c1 := hRr.head.cell (i := 1) (v := .int .i64 r.nodes) rfl
    have k11 := hRr.head.cell (i := 11) (v := sl bt r.nodes) rfl
    have k12 := hRr.head.cell (i := 12) (v := sl bw r.nodes) rfl
    have k7 := hRr.head.cell (i := 7) (v := .int .i64 r.now.l) rfl
    have hsr := hbr.size
    have hle := votesR_le r i
    clear hbr
    unfold sl at k11 k12
    by_cases h : i < r.nodes
    · have hit : i < r.told.length := by omega
      have hiw : i < r.what.length := by omega
      have t0 := hRr.told.cell (bools_get r.told i hit)
      have HWh := Lib.hid (fun (W : World) (hW : Below wr.heap.size wr W) => BlkAt.range (BlkAt.grew HRr.out.what hW) (i * 4) (r.what[i]).cells (fun j hj => bals_get r.what i j hiw hj))
      have HN := Lib.hid (fun (W : World) (hW : Below wr.heap.size wr W) => BlkAt.range (BlkAt.grew HRr.out.head hW) 7 r.now.cells (fun j hj => by match j, hj with | 0, _ => rfl | 1, _ => rfl | 2, _ => rfl | 3, _ => rfl))
      have hcmp := run_eq_rb r.what[i] r.now
      have hst := votesR_step r i
      have hvq : voteQ r i = (r.told[i] && decide (r.what[i] = r.now)) := by
        unfold voteQ
        rw [List.getD_eq_getElem?_getD, List.getD_eq_getElem?_getD, List.getElem?_eq_getElem hit, List.getElem?_eq_getElem hiw]; rfl
      rw [hvq] at hst
      unfold Bal.cells at hcmp HWh HN
      clear hvq hRr
      generalize r.told[i] = tq at *
      generalize r.what[i] = b at *
      have hq : ∃ q, decide (b = r.now) = q := ⟨_, rfl⟩
      obtain ⟨q, hq⟩ := hq
      rw [hq] at hcmp hst
      have Hst := Lib.hid hst
      clear hst hq
      cases tq with
      | false =>
        as_aux_lemma =>
        rw [Bool.false_and, if_neg (by decide), Nat.add_zero] at Hst
        go_wp2_with (fail)
        have hex := Grew.all wr
        refine wp_region_grew (by kernel_rfl) (by kernel_rfl) ?_
        repeat (first | go_big_quiet_skip | (go_big_quiet_want; first | (refine quiet_load_cell 111 _ rfl ⟨g, 11, none⟩ rfl _ _ Try.underlying111 rfl (fun W hW => Grew.cell hW k11) ?_; simp only [Act.put, List.setIfInBounds_toArray, List.set_cons_succ, List.set_cons_zero]; go_big_quiet_on) | (refine quiet_load_cell 4 _ rfl ⟨bt, i, none⟩ rfl _ _ Try.underlying4 rfl (fun W hW => Grew.cell hW t0) ?_; simp only [Act.put, List.setIfInBounds_toArray, List.set_cons_succ, List.set_cons_zero]; go_big_quiet_on) | (go_big_quiet_op; first | go_big_quiet_on | (apply Exists.intro; refine ⟨fun W hW => ?_, ?_⟩; (first | exact rfl); go_big_quiet_on))))
        refine wpQuiet_nil ?_
        intro wq hw4
        have hb5 : Below w.heap.size w wq := Hbr.out.trans (Below.mono (show Below wr.heap.size wr wq from hw4) Hbr.out.size)
        clear hex hw4 k7 k11 k12 c1 t0
        go_wp2
        go_roundw
        case rel => exact ⟨i + 1, by go_num, by omega, by rw [Hst.out]; rfl, hb5⟩
        case measure => simp [intOf]; omega
      | true =>
        rw [Bool.true_and] at Hst
        as_aux_lemma =>
        go_wp2_with (fail)
        have hex := Grew.all wr
        refine wp_region_grew (by kernel_rfl) (by kernel_rfl) ?_
        repeat (first | go_big_quiet_skip | (go_big_quiet_want; first | (refine quiet_load_cell 111 _ rfl ⟨g, 11, none⟩ rfl _ _ Try.underlying111 rfl (fun W hW => Grew.cell hW k11) ?_; simp only [Act.put, List.setIfInBounds_toArray, List.set_cons_succ, List.set_cons_zero]; go_big_quiet_on) | (refine quiet_load_cell 4 _ rfl ⟨bt, i, none⟩ rfl _ _ Try.underlying4 rfl (fun W hW => Grew.cell hW t0) ?_; simp only [Act.put, List.setIfInBounds_toArray, List.set_cons_succ, List.set_cons_zero]; go_big_quiet_on) | (refine quiet_load_cell 112 _ rfl ⟨g, 12, none⟩ rfl _ _ Try.underlying112 rfl (fun W hW => Grew.cell hW k12) ?_; simp only [Act.put, List.setIfInBounds_toArray, List.set_cons_succ, List.set_cons_zero]; go_big_quiet_on) | (refine quiet_load_mid RbT _ rfl bw (i * 4) rfl [.int .i64 b.l, .int .i64 b.e, .int .i64 b.c, .int .i64 b.p] _ (fun W hW => HWh.out W hW) Try.underlying110 rfl (by kernel_rfl) ?_; simp only [Act.put, List.setIfInBounds_toArray, List.set_cons_succ, List.set_cons_zero]; go_big_quiet_on) | (refine quiet_load_mid RbT _ rfl g 7 rfl [.int .i64 r.now.l, .int .i64 r.now.e, .int .i64 r.now.c, .int .i64 r.now.p] _ (fun W hW => HN.out W hW) Try.underlying110 rfl (by kernel_rfl) ?_; simp only [Act.put, List.setIfInBounds_toArray, List.set_cons_succ, List.set_cons_zero]; go_big_quiet_on) | (go_big_quiet_op; first | go_big_quiet_on | (apply Exists.intro; refine ⟨fun W hW => ?_, ?_⟩; (first | exact rfl); go_big_quiet_on))))
        refine wpQuiet_nil ?_
        intro wq hw4
        have hb5 : Below w.heap.size w wq := Hbr.out.trans (Below.mono (show Below wr.heap.size wr wq from hw4) Hbr.out.size)
        clear hex hw4 k7 k11 k12 c1 t0 hcmp
        have hle2 : votesR r i ≤ 7 := by omega
        cases q with
        | true =>
          go_wp2
          go_roundw
          case rel => exact ⟨i + 1, by go_num, by omega, by rw [Hst.out]; go_num, hb5⟩
          case measure => simp [intOf]; omega
        | false =>
          go_wp2
          go_roundw
          case rel => exact ⟨i + 1, by go_num, by omega, by rw [Hst.out]; go_num, hb5⟩
          case measure => simp [intOf]; omega
    · obtain rfl : i = r.nodes := by omega
      clear h hRr
      have HW : Hid (wonR r = if r.nodes / 2 < votesR r r.nodes then (r.now.l, true) else match (List.range r.nodes).find? (leadsR r) with | some i => ((i : Int), true) | none => (0, false)) := by show _ = _; rfl
      by_cases hw : r.nodes / 2 < votesR r r.nodes
      · as_aux_lemma =>
        rw [if_pos hw] at HW
        have hw2 : decide ((r.nodes : Int) / 2 < (votesR r r.nodes : Int)) = true := decide_eq_true (by omega)
        clear hw
        go_wp2
        go_ret2
        exact ⟨by rw [HW.out]; rfl, Hbr.out⟩
      · rw [if_neg hw] at HW
        have hw2 : decide ((r.nodes : Int) / 2 < (votesR r r.nodes : Int)) = false := decide_eq_false (by omega)
        clear hw
        go_wp2_with (fail)
        clear k7 k11 k12 c1 hw2 hle
        go_loopw [6] (fun v6 w5 => ∃ (i : Nat), v6 = .int .i64 (i : Int) ∧ i ≤ r.nodes ∧ (∀ j, j < i → leadsR r j = false) ∧ Below w.heap.size w w5) (fun v6 _ => r.nodes - (intOf v6).toNat)
        case atStart => exact ⟨0, rfl, by omega, fun j hj => by omega, Hbr.out⟩
        case round =>
          obtain ⟨i, rfl, hi, hno, hb5⟩ := hrel
          have Hb5 := Lib.hid hb5
          have hR5 := HR.out.grew hb5
          have HR5 := Lib.hid hR5
          have c1 := hR5.head.cell (i := 1) (v := .int .i64 r.nodes) rfl
          have hs5 := hb5.size
          have HNo := Lib.hid hno
          clear hno hb5 hR5
          by_cases h : i < r.nodes
          · go_wp2_with (fail)
            clear c1
            obtain ⟨wo, hwo⟩ : ∃ wo : World, wo = wr := ⟨_, rfl⟩
            subst hwo
            go_loopw [4, 7] (fun v4 v7 w6 => ∃ (k : Nat), v7 = .int .i64 (k : Int) ∧ k ≤ r.nodes ∧ v4 = .int .i64 (folR r (i : Int) k : Int) ∧ Below w.heap.size w w6) (fun _ v7 _ => r.nodes - (intOf v7).toNat)
            case atStart => exact ⟨0, rfl, by omega, by simp [folR], Hb5.out⟩
            case round =>
              obtain ⟨k, rfl, hk, rfl, hb6⟩ := hrel
              have Hb6 := Lib.hid hb6
              have hR6 := HR.out.grew hb6
              have c1 := hR6.head.cell (i := 1) (v := .int .i64 r.nodes) rfl
              have k13 := hR6.head.cell (i := 13) (v := sl bs r.nodes) rfl
              have k14 := hR6.head.cell (i := 14) (v := sl bh r.nodes) rfl
              unfold sl at k13 k14
              have hs6 := hb6.size
              have hle := folR_le r (i : Int) k
              clear hb6
              obtain ⟨_, _, _, hbs, hbh⟩ := hR6.states
              by_cases hkn : k < r.nodes
              · have s0 := hbs.cell (ints_get r.state k (by omega))
                have s1 := hbh.cell (ints_get r.whom k (by omega))
                have hst := folR_step r (i : Int) k
                have hfq : folQ r (i : Int) k = (decide (r.state[k] ≠ 0) && decide (r.whom[k] = (i : Int))) := by
                  unfold folQ
                  rw [List.getD_eq_getElem?_getD, List.getD_eq_getElem?_getD, List.getElem?_eq_getElem (by omega : k < r.state.length), List.getElem?_eq_getElem (by omega : k < r.whom.length)]; rfl
                rw [hfq] at hst
                clear hfq hR6 hbs hbh
                generalize r.state[k] = s at *
                generalize r.whom[k] = d at *
                have Hst := Lib.hid hst
                clear hst
                by_cases hs0 : s = 0
                · as_aux_lemma =>
                  rw [decide_eq_false (by simpa using hs0), Bool.false_and, if_neg (by decide), Nat.add_zero] at Hst
                  have z0 : (s != 0) = false := by simpa using hs0
                  clear hs0
                  have hb7 := Hb6.out
                  go_wp2
                  go_roundw
                  case rel => exact ⟨k + 1, by go_num, by omega, by rw [Hst.out]; rfl, hb7⟩
                  case measure => simp [intOf]; omega
                · rw [decide_eq_true hs0, Bool.true_and] at Hst
                  have z0 : (s != 0) = true := by simpa using hs0
                  clear hs0
                  have hle2 : folR r (i : Int) k ≤ 7 := by omega
                  by_cases hd : d = (i : Int)
                  · as_aux_lemma =>
                    rw [decide_eq_true hd, if_pos rfl] at Hst
                    have z1 : (d == (i : Int)) = true := by simpa using hd
                    clear hd
                    have hb7 := Hb6.out
                    go_wp2
                    go_roundw
                    case rel => exact ⟨k + 1, by go_num, by omega, by rw [Hst.out]; go_num, hb7⟩
                    case measure => simp [intOf]; omega
                  · as_aux_lemma =>
                    rw [decide_eq_false hd, if_neg (by decide), Nat.add_zero] at Hst
                    have z1 : (d == (i : Int)) = false := by simpa using hd
                    clear hd
                    have hb7 := Hb6.out
                    go_wp2
                    go_roundw
                    case rel => exact ⟨k + 1, by go_num, by omega, by rw [Hst.out]; rfl, hb7⟩
                    case measure => simp [intOf]; omega
              · obtain rfl : k = r.nodes := by omega
                clear hkn
                have s0 := hbs.cell (ints_get r.state i (by omega))
                have s1 := hbh.cell (ints_get r.whom i (by omega))
                have hld : leadsR r i = (decide (r.nodes / 2 < folR r (i : Int) r.nodes) && (decide (r.state[i] = 3) && decide (r.whom[i] = (i : Int)))) := by
                  unfold leadsR
                  rw [List.getD_eq_getElem?_getD, List.getD_eq_getElem?_getD, List.getElem?_eq_getElem (by omega : i < r.state.length), List.getElem?_eq_getElem (by omega : i < r.whom.length)]; rfl
                clear hR6 hbs hbh
                generalize r.state[i] = s at *
                generalize r.whom[i] = d at *
                generalize folR r (i : Int) r.nodes = fr at *
                have Hld := Lib.hid hld
                clear hld
                have HN1 : leadsR r i = false → Hid (∀ j, j < i + 1 → leadsR r j = false) := fun hl => Lib.hid (fun j hj => by
                  rcases Nat.lt_or_ge j i with h' | h'
                  · exact HNo.out j h'
                  · obtain rfl : j = i := by omega
                    exact hl)
                have HN2 := Lib.hid HN1
                clear HN1
                by_cases hfr : r.nodes / 2 < fr
                · have d0 : decide ((r.nodes : Int) / 2 < (fr : Int)) = true := decide_eq_true (by omega)
                  rw [decide_eq_true hfr, Bool.true_and] at Hld
                  clear hfr
                  by_cases hs3 : s = 3
                  · have d1 : (s == 3) = true := by simpa using hs3
                    rw [decide_eq_true hs3, Bool.true_and] at Hld
                    clear hs3
                    by_cases hd : d = (i : Int)
                    · as_aux_lemma =>
                      have d2 : (d == (i : Int)) = true := by simpa using hd
                      rw [decide_eq_true hd] at Hld
                      have hfi : (List.range r.nodes).find? (leadsR r) = some i := List.find?_range_eq_some.2 ⟨Hld.out, List.mem_range.2 h, fun j hj => by rw [HNo.out j hj]; rfl⟩
                      rw [hfi] at HW
                      clear hd hfi
                      have hb7 := Hb6.out
                      go_wp2
                      go_ret2
                      exact ⟨by rw [HW.out]; rfl, hb7⟩
                    · as_aux_lemma =>
                      have d2 : (d == (i : Int)) = false := by simpa using hd
                      rw [decide_eq_false hd] at Hld
                      have HN1 := HN2.out Hld.out
                      clear hd HN2 Hld
                      have hb7 := Hb6.out
                      go_wp2
                      go_roundw
                      case rel => exact ⟨i + 1, by go_num, by omega, HN1.out, hb7⟩
                      case measure => simp [intOf]; omega
                  · as_aux_lemma =>
                    have d1 : (s == 3) = false := by simpa using hs3
                    rw [decide_eq_false hs3, Bool.false_and] at Hld
                    have HN1 := HN2.out Hld.out
                    clear hs3 HN2 Hld
                    have hb7 := Hb6.out
                    go_wp2
                    go_roundw
                    case rel => exact ⟨i + 1, by go_num, by omega, HN1.out, hb7⟩
                    case measure => simp [intOf]; omega
                · as_aux_lemma =>
                  have d0 : decide ((r.nodes : Int) / 2 < (fr : Int)) = false := decide_eq_false (by omega)
                  rw [decide_eq_false hfr, Bool.false_and] at Hld
                  have HN1 := HN2.out Hld.out
                  clear hfr HN2 Hld
                  have hb7 := Hb6.out
                  go_wp2
                  go_roundw
                  case rel => exact ⟨i + 1, by go_num, by omega, HN1.out, hb7⟩
                  case measure => simp [intOf]; omega
          · obtain rfl : i = r.nodes := by omega
            have hfi : (List.range r.nodes).find? (leadsR r) = none := List.find?_range_eq_none.2 (fun j hj => by rw [HNo.out j hj]; rfl)
            rw [hfi] at HW
            as_aux_lemma =>
            clear hfi
            go_wp2
            go_ret2
            exact ⟨by rw [HW.out]; rfl, Hb5.out⟩
end
end Go.Proofs.Ytaahbfcnccmcoaa
