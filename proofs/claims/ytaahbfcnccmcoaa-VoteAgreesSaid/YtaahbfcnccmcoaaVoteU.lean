/- The walk of Won, whoever is decided. Conditions: as each theorem says. -/
import Derived.Test.YtaahbfcnccmcoaaVoteH
namespace Go.Proofs.Ytaahbfcnccmcoaa
open Go.RowKit

/-- How many of the first k follow the node j. -/
def fol (D : List (Int × Int)) (j : Int) (k : Nat) : Nat := (D.take k).countP fun d => decide (d.2 ≠ 0 ∧ d.1 = j)
theorem fol_step (D : List (Int × Int)) (j : Int) (k : Nat) (h : k < D.length) : fol D j (k + 1) = fol D j k + if D[k].2 ≠ 0 ∧ D[k].1 = j then 1 else 0 := by
  unfold fol
  rw [List.take_succ_eq_append_getElem h, List.countP_append]
  by_cases h1 : D[k].2 ≠ 0 ∧ D[k].1 = j
  · rw [if_pos h1]; simp [h1]
  · rw [if_neg h1]; simp only [List.countP_cons, List.countP_nil, decide_eq_true_eq, if_neg h1]
theorem fol_le (D : List (Int × Int)) (j : Int) (k : Nat) : fol D j k ≤ k := by
  unfold fol
  exact Nat.le_trans List.countP_le_length (by simp; omega)
def fols (D : List (Int × Int)) (k : Nat) : List Value := (List.range 7).map fun (j : Nat) => Value.int .i64 (fol D (j : Int) k : Int)
theorem fols_get (D : List (Int × Int)) (k j : Nat) (hj : j < 7) : (fols D k)[j]? = some (.int .i64 (fol D (j : Int) k : Int)) := by
  unfold fols; simp [hj]
theorem fols_zero (D : List (Int × Int)) : fols D 0 = zeros7 := by unfold fols fol zeros7; simp [List.range_succ]
theorem fols_same (D : List (Int × Int)) (k : Nat) (h : k < D.length) (h0 : D[k].2 = 0) : fols D (k + 1) = fols D k := by
  unfold fols
  refine List.map_congr_left (fun j _ => ?_)
  rw [fol_step D j k h, if_neg (by simp [h0])]; rfl
theorem fols_set (D : List (Int × Int)) (k j : Nat) (h : k < D.length) (h0 : D[k].2 ≠ 0) (hj : D[k].1 = (j : Int)) (h7 : j < 7) : (fols D k).set j (.int .i64 ((fol D (j : Int) k : Int) + 1)) = fols D (k + 1) := by
  apply List.ext_getElem
  · simp [fols]
  · intro i h1 h2
    have hi : i < 7 := by simpa [fols] using h2
    have e2 : (fols D (k + 1))[i] = .int .i64 (fol D (i : Int) (k + 1) : Int) := by
      have := fols_get D (k + 1) i hi
      rw [List.getElem?_eq_getElem h2] at this
      exact Option.some.inj this
    have h3 : i < (fols D k).length := by simpa [fols] using hi
    have e3 : (fols D k)[i] = .int .i64 (fol D (i : Int) k : Int) := by
      have := fols_get D k i hi
      rw [List.getElem?_eq_getElem h3] at this
      exact Option.some.inj this
    have e4 := fol_step D i k h
    rw [List.getElem_set]
    refine Eq.trans ?_ e2.symm
    rw [e4]
    by_cases e : j = i
    · subst e
      rw [if_pos rfl, if_pos ⟨h0, hj⟩]
      simp
    · rw [if_neg e, if_neg (fun hh => e (by have := hh.2; rw [hj] at this; omega))]
      exact e3
/-- Who is decided for is a node. -/
def fitD (p : Poll) : Prop := ∀ i (h : i < p.dec.length), p.dec[i].2 ≠ 0 → 0 ≤ p.dec[i].1 ∧ p.dec[i].1 < 7
def leadsB (p : Poll) (i : Nat) : Bool := decide (p.nodes / 2 < fol p.dec (i : Int) p.nodes) && decide (p.dec.getD i (0, 0) = ((i : Int), 3))
def wonG (p : Poll) : Int × Bool := if p.nodes / 2 < votesN p p.nodes then (p.now.l, true) else match (List.range p.nodes).find? (leadsB p) with | some i => ((i : Int), true) | none => (0, false)
abbrev DecT : TypeId := 100
abbrev SevT : TypeId := 108
set_option maxRecDepth 100000 in
theorem run_eq_dec (a b : Int × Int) (W : World) : (binOp .eql DecT (.agg #[.int .i64 a.1, .int .i64 a.2]) (.agg #[.int .i64 b.1, .int .i64 b.2])).run Try.prog W = .ok (.bool (decide (a = b))) W := by
  obtain ⟨a0, a1⟩ := a
  obtain ⟨b0, b1⟩ := b
  go_simp
  by_cases h0 : a0 = b0 <;> by_cases h1 : a1 = b1 <;> simp [h0, h1]
set_option maxRecDepth 100000 in
set_option maxHeartbeats 3200000 in
theorem wong_any (g : Nat) (p : Poll) (hp : p.fit) (hD : fitD p) (w : World) (h : PollAt g p w) :
    Calls Try.prog 30 #[ptrV g] w fun e w' => e = .returned (.tuple #[.int .i64 (wonG p).1, .bool (wonG p).2]) ∧ Below w.heap.size w w' := by
  have hn1 := hp.nodes1
  have hn7 := hp.nodes7
  have ht := hp.told
  have hd := hp.dec
  have hlt : g < w.heap.size := BlkAt.lt h
  have c1 : w.cell? ⟨g, 1, none⟩ = some (.int .i64 (p.nodes : Int)) := h.cell (by rfl)
  have HP := Lib.hid h
  clear h hp
  unfold ptrV
  go_enter Try.func30, Try.ntmps30
  go_wp2_with (fail)
  go_loopw [4, 15] (fun v4 v15 wr => ∃ (i : Nat), v15 = .int .i64 (i : Int) ∧ i ≤ p.nodes ∧ v4 = .int .i64 (votesN p i : Int) ∧ Below w.heap.size w wr ∧ BlkAt w.heap.size SevT (fols p.dec i) wr) (fun _ v15 _ => p.nodes - (intOf v15).toNat)
  case atStart => exact ⟨0, rfl, by omega, by simp [votesN], alloc_below w _, by rw [fols_zero]; exact BlkAt.alloc_new w zeros7 _⟩
  case round =>
    obtain ⟨i, rfl, hi, rfl, hbr, hz⟩ := hrel
    have Hbr := Lib.hid hbr
    have Hz := Lib.hid hz
    have hPr := BlkAt.grew HP.out hbr
    have c1 : wr.cell? ⟨g, 1, none⟩ = some (.int .i64 (p.nodes : Int)) := hPr.cell (by rfl)
    have n7 : wr.cell? ⟨g, 7, none⟩ = some (.int .i64 p.now.l) := hPr.cell (by rfl)
    have HPr := Lib.hid hPr
    have hle := votesN_le p i
    have hsr := hbr.size
    clear hbr hz hPr
    by_cases h : i < p.nodes
    · have hit : i < p.told.length := by omega
      have hid : i < p.dec.length := by omega
      have hi7 : i < 7 := by omega
      have e1 := HPr.out.cell (i := 46 + i * 2 + 1) (by rw [poll_dec p i 1 ht hid (by omega)]; rfl : _ = some (Value.int .i64 p.dec[i].2))
      have e0 := HPr.out.cell (i := 46 + i * 2) (by rw [show 46 + i * 2 = 46 + i * 2 + 0 from rfl, poll_dec p i 0 ht hid (by omega)]; rfl : _ = some (Value.int .i64 p.dec[i].1))
      have HR := Lib.hid (fun (W : World) (hW : Below wr.heap.size wr W) => BlkAt.range (BlkAt.grew HPr.out hW) (11 + i * 5) (toldCells p.told[i]) (fun j hj => poll_told p i j hit hj))
      have HN := Lib.hid (fun (W : World) (hW : Below wr.heap.size wr W) => BlkAt.range (BlkAt.grew HPr.out hW) 7 p.now.cells (fun j hj => by match j, hj with | 0, _ => rfl | 1, _ => rfl | 2, _ => rfl | 3, _ => rfl))
      have hcmp := run_eq_told p.told[i] (true, p.now)
      have hst := votesN_step p i hit
      have hfd := hD i hid
      have hfs := fols_same p.dec i hid
      have hft := fun j => fols_set p.dec i j hid
      have hfg := fun j hj => fols_get p.dec i j hj
      have hfl := fun j : Int => fol_le p.dec j i
      unfold toldCells Bal.cells at hcmp HR
      unfold Bal.cells at HN
      simp only at hcmp
      generalize p.told[i] = t at *
      generalize p.dec[i].1 = d0 at *
      generalize p.dec[i].2 = d1 at *
      have hvq : ∃ q : Bool, decide (t = (true, p.now)) = q ∧ Hid (votesN p (i + 1) = votesN p i + if q = true then 1 else 0) := by
        refine ⟨_, rfl, Lib.hid ?_⟩
        rw [hst]
        by_cases hq : t = (true, p.now) <;> simp [hq]
      obtain ⟨q, hq, Hst⟩ := hvq
      rw [hq] at hcmp
      clear hq hst
      have hdc : d1 = 0 ∨ ((d1 == 0) = false ∧ ∃ j : Nat, d0 = (j : Int) ∧ j < 7 ∧ d1 ≠ 0) := by
        by_cases h0 : d1 = 0
        · exact .inl h0
        · obtain ⟨k1, k2⟩ := hfd h0
          exact .inr ⟨by rw [beq_eq_false_iff_ne]; exact h0, d0.toNat, by omega, by omega, h0⟩
      have Hfs := Lib.hid hfs
      have Hft := Lib.hid hft
      have Hfg := Lib.hid hfg
      have Hfl := Lib.hid hfl
      clear hfd hfs hft hfg hfl
      go_wp2_with (fail)
      have hex := Grew.all wr
      refine wp_region_grew (by kernel_rfl) (by kernel_rfl) ?_
      repeat (first | go_big_quiet_skip | (go_big_quiet_want; first | (refine quiet_load_mid 97 _ rfl _ _ rfl [.bool t.1, .int .i64 t.2.l, .int .i64 t.2.e, .int .i64 t.2.c, .int .i64 t.2.p] _ (fun W hW => HR.out W hW) Try.underlying97 rfl (by kernel_rfl) ?_; simp only [Act.put, List.setIfInBounds_toArray, List.set_cons_succ, List.set_cons_zero]; go_big_quiet_on) | (refine quiet_load_mid 95 _ rfl _ _ rfl [.int .i64 p.now.l, .int .i64 p.now.e, .int .i64 p.now.c, .int .i64 p.now.p] _ (fun W hW => HN.out W hW) Try.underlying95 rfl (by kernel_rfl) ?_; simp only [Act.put, List.setIfInBounds_toArray, List.set_cons_succ, List.set_cons_zero]; go_big_quiet_on) | (go_big_quiet_op; first | go_big_quiet_on | (apply Exists.intro; refine ⟨fun W hW => ?_, ?_⟩; (first | exact rfl); go_big_quiet_on))))
      refine wpQuiet_nil ?_
      intro wq hw4
      have e0 := Grew.cell hw4 e0
      have e1 := Grew.cell hw4 e1
      have hb5 : Below w.heap.size w wq := Hbr.out.trans (Below.mono (show Below wr.heap.size wr wq from hw4) Hbr.out.size)
      have Hb6 : Hid (∀ o, Below w.heap.size w (wq.alloc o)) := fun o => hb5.alloc hb5.size o
      have Hz6 : Hid (∀ o, BlkAt w.heap.size SevT (fols p.dec i) (wq.alloc o)) := fun o => BlkAt.grew (BlkAt.grew Hz.out hw4) (alloc_below _ o)
      have hsq := hb5.size
      clear hex hw4 hb5 n7 c1 HR HN hcmp
      have hle2 : votesN p i ≤ 7 := by omega
      rcases hdc with rfl | ⟨dz, j, rfl, hj7, hj0⟩
      · have Hf := Lib.hid (Hfs.out rfl)
        clear Hfs Hft Hfg
        cases q with
        | true =>
          as_aux_lemma =>
          go_wp2
          go_roundw
          case rel => exact ⟨i + 1, by go_num, by omega, by rw [Hst.out]; go_num, Hb6.out _, by rw [Hf.out]; exact Hz6.out _⟩
          case measure => simp [intOf]; omega
        | false =>
          as_aux_lemma =>
          go_wp2
          go_roundw
          case rel => exact ⟨i + 1, by go_num, by omega, by rw [Hst.out]; go_num, Hb6.out _, by rw [Hf.out]; exact Hz6.out _⟩
          case measure => simp [intOf]; omega
      · have Hf := Lib.hid (Hft.out j hj0 rfl hj7)
        have hzz := Hz6.out (.cells #[.int .i64 (j : Int), .int .i64 d1] DecT)
        have z0 := hzz.cell (Hfg.out j hj7)
        have f0 := hzz.frozen j
        have hfl := Hfl.out (j : Int)
        have HZS := Lib.hid (hzz.set j (.int .i64 ((fol p.dec (j : Int) i : Int) + 1)))
        have HBS := Lib.hid ((Hb6.out (.cells #[.int .i64 (j : Int), .int .i64 d1] DecT)).grown (grown_set _ w.heap.size j (.int .i64 ((fol p.dec (j : Int) i : Int) + 1))) (by simp; omega) (by intro k hk; simp only [Option.some.injEq] at hk; omega))
        rw [Hf.out] at HZS
        clear Hfs Hft Hfg Hfl hj0 hzz Hf
        have hjl : (j : Int) < 7 := by omega
        generalize fol p.dec (j : Int) i = fj at *
        cases q with
        | true =>
          as_aux_lemma =>
          go_wp2
          go_roundw
          case rel => exact ⟨i + 1, by go_num, by omega, by rw [Hst.out]; go_num, HBS.out, HZS.out⟩
          case measure => simp [intOf]; omega
        | false =>
          as_aux_lemma =>
          go_wp2
          go_roundw
          case rel => exact ⟨i + 1, by go_num, by omega, by rw [Hst.out]; go_num, HBS.out, HZS.out⟩
          case measure => simp [intOf]; omega
    · obtain rfl : i = p.nodes := by omega
      have HW : Hid (wonG p = if p.nodes / 2 < votesN p p.nodes then (p.now.l, true) else match (List.range p.nodes).find? (leadsB p) with | some i => ((i : Int), true) | none => (0, false)) := by show _ = _; rfl
      by_cases hw : p.nodes / 2 < votesN p p.nodes
      · as_aux_lemma =>
        rw [if_pos hw] at HW
        go_wp2
        go_ret2
        exact ⟨by rw [HW.out]; rfl, Hbr.out⟩
      · rw [if_neg hw] at HW
        have hw2 : decide ((p.nodes : Int) / 2 < (votesN p p.nodes : Int)) = false := decide_eq_false (by omega)
        clear hw
        go_wp2_with (fail)
        go_loopw [64] (fun v64 w5 => ∃ (i : Nat), v64 = .int .i64 (i : Int) ∧ i ≤ p.nodes ∧ (∀ j, j < i → leadsB p j = false) ∧ Below w.heap.size w w5 ∧ BlkAt w.heap.size SevT (fols p.dec p.nodes) w5) (fun v64 _ => p.nodes - (intOf v64).toNat)
        case atStart => exact ⟨0, rfl, by omega, fun j hj => by omega, Hbr.out, Hz.out⟩
        case round =>
          obtain ⟨i, rfl, hi, hno, hb5, hz5⟩ := hrel
          have Hb5 := Lib.hid hb5
          have hP5 := BlkAt.grew HP.out hb5
          have c1 : wr.cell? ⟨g, 1, none⟩ = some (.int .i64 (p.nodes : Int)) := hP5.cell (by rfl)
          have hs5 := hb5.size
          have HNo := Lib.hid hno
          clear hno
          by_cases h : i < p.nodes
          · have hi7 : i < 7 := by omega
            have hid : i < p.dec.length := by omega
            have f0 := hz5.cell (fols_get p.dec p.nodes i hi7)
            have Hz5 := Lib.hid hz5
            have e1 := hP5.cell (i := 46 + i * 2 + 1) (by rw [poll_dec p i 1 ht hid (by omega)]; rfl : _ = some (Value.int .i64 p.dec[i].2))
            have e0 := hP5.cell (i := 46 + i * 2) (by rw [show 46 + i * 2 = 46 + i * 2 + 0 from rfl, poll_dec p i 0 ht hid (by omega)]; rfl : _ = some (Value.int .i64 p.dec[i].1))
            have hlead : leadsB p i = (decide (p.nodes / 2 < fol p.dec (i : Int) p.nodes) && decide (p.dec[i] = ((i : Int), 3))) := by unfold leadsB; rw [List.getD_eq_getElem?_getD, List.getElem?_eq_getElem hid]; rfl
            have hcmp := run_eq_dec p.dec[i] ((i : Int), 3)
            have hfl := fol_le p.dec (i : Int) p.nodes
            clear hz5 hP5 hb5
            generalize p.dec[i] = d at *
            generalize fol p.dec (i : Int) p.nodes = f at *
            have hcs : (decide ((p.nodes : Int) / 2 < (f : Int)) = false ∧ Hid (leadsB p i = false)) ∨ (decide ((p.nodes : Int) / 2 < (f : Int)) = true ∧ ∃ q : Bool, decide (d = ((i : Int), 3)) = q ∧ Hid (leadsB p i = q)) := by
              by_cases h1 : p.nodes / 2 < f
              · exact .inr ⟨decide_eq_true (by omega), _, rfl, Lib.hid (by rw [hlead, decide_eq_true h1, Bool.true_and])⟩
              · exact .inl ⟨decide_eq_false (by omega), Lib.hid (by rw [hlead, decide_eq_false h1, Bool.false_and])⟩
            clear hlead
            rcases hcs with ⟨df, Hl⟩ | ⟨df, q, hq, Hl⟩
            · have HN1 : Hid (∀ j, j < i + 1 → leadsB p j = false) := Lib.hid (fun j hj => by
                rcases Nat.lt_or_ge j i with h' | h'
                · exact HNo.out j h'
                · obtain rfl : j = i := by omega
                  exact Hl.out)
              clear hcmp
              as_aux_lemma =>
              go_wp2_with (fail)
              have hex := Grew.all wr
              refine wp_region_grew (by kernel_rfl) (by kernel_rfl) ?_
              repeat (first | go_big_quiet_skip | (go_big_quiet_want; first | (refine quiet_load_cell 3 _ rfl ⟨w.heap.size, i, none⟩ rfl _ _ Try.underlying3 rfl (fun W hW => Grew.cell hW f0) ?_; simp only [Act.put, List.setIfInBounds_toArray, List.set_cons_succ, List.set_cons_zero]; go_big_quiet_on) | (refine quiet_load_cell 3 _ rfl ⟨g, 1, none⟩ rfl _ _ Try.underlying3 rfl (fun W hW => Grew.cell hW c1) ?_; simp only [Act.put, List.setIfInBounds_toArray, List.set_cons_succ, List.set_cons_zero]; go_big_quiet_on) | (go_big_quiet_op; first | go_big_quiet_on | (apply Exists.intro; refine ⟨fun W hW => ?_, ?_⟩; (first | exact rfl); go_big_quiet_on))))
              refine wpQuiet_nil ?_
              intro wq hw4
              have hb6 : Below w.heap.size w wq := Hb5.out.trans (Below.mono (show Below wr.heap.size wr wq from hw4) Hb5.out.size)
              have hz6 := BlkAt.grew Hz5.out hw4
              clear hex hw4
              go_wp2
              go_roundw
              case rel => exact ⟨i + 1, by go_num, by omega, HN1.out, hb6, hz6⟩
              case measure => simp [intOf]; omega
            · rw [hq] at hcmp
              simp only at hcmp
              obtain ⟨d0, d1⟩ := d
              simp only at hcmp e0 e1
              clear hq
              go_wp2_with (fail)
              have hex := Grew.all wr
              refine wp_region_grew (by kernel_rfl) (by kernel_rfl) ?_
              repeat (first | go_big_quiet_skip | (go_big_quiet_want; first | (refine quiet_load_cell 3 _ rfl ⟨w.heap.size, i, none⟩ rfl _ _ Try.underlying3 rfl (fun W hW => Grew.cell hW f0) ?_; simp only [Act.put, List.setIfInBounds_toArray, List.set_cons_succ, List.set_cons_zero]; go_big_quiet_on) | (refine quiet_load_cell 3 _ rfl ⟨g, 1, none⟩ rfl _ _ Try.underlying3 rfl (fun W hW => Grew.cell hW c1) ?_; simp only [Act.put, List.setIfInBounds_toArray, List.set_cons_succ, List.set_cons_zero]; go_big_quiet_on) | (refine quiet_load_mid DecT _ rfl g (46 + i * 2) rfl [.int .i64 d0, .int .i64 d1] _ (fun W hW => range2 (Grew.cell hW e0) (Grew.cell hW e1)) Try.underlying100 rfl (by kernel_rfl) ?_; simp only [Act.put, List.setIfInBounds_toArray, List.set_cons_succ, List.set_cons_zero]; go_big_quiet_on) | (go_big_quiet_op; first | go_big_quiet_on | (apply Exists.intro; refine ⟨fun W hW => ?_, ?_⟩; (first | exact rfl); go_big_quiet_on))))
              refine wpQuiet_nil ?_
              intro wq hw4
              have hb6 : Below w.heap.size w wq := Hb5.out.trans (Below.mono (show Below wr.heap.size wr wq from hw4) Hb5.out.size)
              have hz6 := BlkAt.grew Hz5.out hw4
              clear hex hw4 e0 e1 f0 c1 hcmp
              cases q with
              | true =>
                as_aux_lemma =>
                have hfi : (List.range p.nodes).find? (leadsB p) = some i := List.find?_range_eq_some.2 ⟨Hl.out, List.mem_range.2 h, fun j hj => by rw [HNo.out j hj]; rfl⟩
                rw [hfi] at HW
                clear hfi
                go_wp2
                go_ret2
                exact ⟨by rw [HW.out]; rfl, hb6⟩
              | false =>
                have HN1 : Hid (∀ j, j < i + 1 → leadsB p j = false) := Lib.hid (fun j hj => by
                  rcases Nat.lt_or_ge j i with h' | h'
                  · exact HNo.out j h'
                  · obtain rfl : j = i := by omega
                    exact Hl.out)
                as_aux_lemma =>
                go_wp2
                go_roundw
                case rel => exact ⟨i + 1, by go_num, by omega, HN1.out, hb6, hz6⟩
                case measure => simp [intOf]; omega
          · obtain rfl : i = p.nodes := by omega
            have hfi : (List.range p.nodes).find? (leadsB p) = none := List.find?_range_eq_none.2 (fun j hj => by rw [HNo.out j hj]; rfl)
            rw [hfi] at HW
            as_aux_lemma =>
            clear hfi
            go_wp2
            go_ret2
            exact ⟨by rw [HW.out]; rfl, Hb5.out⟩
end Go.Proofs.Ytaahbfcnccmcoaa
