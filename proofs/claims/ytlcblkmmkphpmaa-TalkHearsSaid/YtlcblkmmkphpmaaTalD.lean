/- The walks of talk's reader: things of Compare, Op, Kv. Printed by gen/genTalD.py. Conditions: as each theorem says. -/
import Derived.Test.YtlcblkmmkphpmaaTalC
namespace Go.Proofs.Ytlcblkmmkphpmaa
open Go.RowKit

theorem many_is (r : Rd) : (manyR r).2 = checkR (decide (0 ≤ (numR r).1) && decide ((numR r).1 ≤ 10000)) (numR r).2 ∧ ((manyR r).2.e = 0 → (numR r).1 = ((manyR r).1 : Int)) ∧ (manyR r).1 ≤ 10000 := by
  unfold manyR checkR
  by_cases he : (numR r).2.e = 0
  · by_cases hb : (numR r).1 < 0 ∨ 10000 < (numR r).1
    · rw [if_neg (by omega), if_pos hb, if_pos ⟨by simp only [Bool.and_eq_false_iff, decide_eq_false_iff_not]; omega, he⟩]
      exact ⟨rfl, fun h => absurd (show 11 = 0 from h) (by decide), by simp⟩
    · rw [if_neg (by omega), if_neg hb, if_neg (fun hh => by have := hh.1; simp only [Bool.and_eq_false_iff, decide_eq_false_iff_not] at this; omega)]
      exact ⟨rfl, fun _ => by simp only; omega, by simp only; omega⟩
  · rw [if_pos (by omega), if_neg (fun hh => he hh.2)]
    exact ⟨rfl, fun h => absurd h he, by simp⟩
theorem items_bad {α : Type} (rd : Rd → α × Rd) (k : Nat) (r : Rd) (h : r.e ≠ 0) : itemsR rd k r = ([], r) := by
  cases k with
  | zero => rfl
  | succ k => rw [itemsR, if_pos h]
theorem items_next {α : Type} (rd : Rd → α × Rd) (k : Nat) (r : Rd) (h : r.e = 0) : itemsR rd (k + 1) r = ((rd r).1 :: (itemsR rd k (rd r).2).1, (itemsR rd k (rd r).2).2) := by
  rw [itemsR, if_neg (by omega)]
/-- How far a list is read: D stands, ri is what is left. -/
structure Way {α : Type} (c : Cod α) (n : Int) (N : Nat) (r2 : Rd) (i : Nat) (D : List α) (ri : Rd) : Prop where
  len : D.length = i
  le : i ≤ N
  n : ri.e = 0 → n = (N : Int)
  fst : D ++ (itemsR c.rd (N - i) ri).1 = (itemsR c.rd N r2).1
  snd : (itemsR c.rd (N - i) ri).2 = (itemsR c.rd N r2).2
theorem way_start {α : Type} (c : Cod α) (n : Int) (N : Nat) (r2 : Rd) (h : r2.e = 0 → n = (N : Int)) : Way c n N r2 0 [] r2 := ⟨rfl, Nat.zero_le _, h, rfl, rfl⟩
theorem Way.next {α : Type} {c : Cod α} {n : Int} {N : Nat} {r2 : Rd} {i : Nat} {D : List α} {ri : Rd} (h : Way c n N r2 i D ri) (he : ri.e = 0) (hi : i < N) {x : α} {r1 : Rd} (hx : c.rd ri = (x, r1)) : Way c n N r2 (i + 1) (D ++ [x]) r1 := by
  have h1 := h.fst
  have h2 := h.snd
  rw [show N - i = (N - (i + 1)) + 1 by omega, items_next c.rd _ ri he, hx] at h1 h2
  refine ⟨by rw [List.length_append, h.len]; rfl, by omega, fun _ => h.n he, ?_, h2⟩
  rw [← h1]
  simp
theorem Way.done {α : Type} {c : Cod α} {n : Int} {N : Nat} {r2 : Rd} {i : Nat} {D : List α} {ri : Rd} (h : Way c n N r2 i D ri) (he : ri.e ≠ 0 ∨ ¬ i < N) : (itemsR c.rd N r2) = (D, ri) := by
  have h1 := h.fst
  have h2 := h.snd
  have e : itemsR c.rd (N - i) ri = ([], ri) := by
    rcases he with he | he
    · exact items_bad _ _ _ he
    · have := h.le
      rw [show N - i = 0 by omega]; rfl
  rw [e] at h1 h2
  simp only [List.append_nil] at h1
  exact Prod.ext h1.symm h2.symm
theorem cp_one (x : Cp) : ∀ u ∈ cpV x, u.oneCell' = true := by intro u hu; simp only [cpV, List.mem_cons, List.not_mem_nil, or_false] at hu; rcases hu with rfl | rfl | rfl | rfl | rfl <;> rfl
theorem op_one (x : Opr) : ∀ u ∈ opV x, u.oneCell' = true := by intro u hu; simp only [opV, List.mem_cons, List.not_mem_nil, or_false] at hu; rcases hu with rfl | rfl | rfl | rfl | rfl | rfl | rfl | rfl | rfl | rfl <;> rfl
theorem kv_one (x : Kvr) : ∀ u ∈ kvV x, u.oneCell' = true := by intro u hu; simp only [kvV, List.mem_cons, List.not_mem_nil, or_false] at hu; rcases hu with rfl | rfl | rfl | rfl | rfl | rfl <;> rfl
theorem infoCp : (Try.prog.info? 75).map (fun i => (i.zero, i.size, i.bytes)) = some (some (.agg #[.string ⟨#[]⟩, .int .i64 0, .int .i64 0, .int .i64 0, .string ⟨#[]⟩]), 5, 56) := by kernel_rfl
theorem infoOp : (Try.prog.info? 89).map (fun i => (i.zero, i.size, i.bytes)) = some (some (.agg #[.int .i64 0, .string ⟨#[]⟩, .string ⟨#[]⟩, .int .i64 0, .int .i64 0, .bool false, .bool false, .bool false, .string ⟨#[]⟩, .int .i64 0]), 10, 88) := by kernel_rfl
theorem infoKv : (Try.prog.info? 101).map (fun i => (i.zero, i.size, i.bytes)) = some (some (.agg #[.string ⟨#[]⟩, .string ⟨#[]⟩, .int .i64 0, .int .i64 0, .int .i64 0, .int .i64 0]), 6, 64) := by kernel_rfl
theorem bd_any {α : Type} {c : Cod α} (hs : c.shr) {r r1 : Rd} {x : α} (hx : c.rd r = (x, r1)) (hl : Bd r) : Bd r1 := by have := hs r; rw [hx] at this; exact Nat.le_trans this hl
theorem bd_check (b : Bool) {r : Rd} (hl : Bd r) : Bd (checkR b r) := by unfold checkR; split <;> exact hl
/-- Behind an append of one element: the reader, and what else there was. -/
theorem row_after {α : Type} {T : TypeId} {k : Nat} {enc : α → List Value} {w0 wa wb : World} {v q : Nat} {r : Rd} {u : Value} {L : List α} (hG : Grow T k enc w0.heap.size u L wa) (o : Obj) (hT : Tk v q r wa) (hg : Gr2 q v w0 wa) (hvq : v < w0.heap.size ∧ q < w0.heap.size) (h : (wa.alloc o).grownBy wb u.ownBlock) : Tk v q r wb ∧ Gr2 q v w0 wb := by
  have hb := own_base hG
  refine ⟨(hT.grew (alloc_below wa o)).row h (fun e => by have := hb _ e.symm; omega) (fun e => by have := hb _ e.symm; omega), ?_⟩
  exact (hg.trans (Gr2.of_below (alloc_below wa o))).row h (fun k hk => hb k hk)
set_option maxRecDepth 100000 in
set_option maxHeartbeats 2000000 in
theorem tthingsCompare_any (v q : Nat) (hvq : v ≠ q) (r : Rd) (hl : Bd r) (w : World) (h : Tk v q r w) :
    Calls Try.prog 63 #[.pointer (some ⟨v, 0, none⟩), .func (.func 64) #[.pointer (some ⟨v, 0, none⟩)] #[]] w fun e w' => ∃ u, e = .returned u ∧ Grow 75 5 cpV w.heap.size u (cpC.list.rd r).1 w' ∧ Tk v q (cpC.list.rd r).2 w' ∧ Gr2 q v w w' := by
  have hlv := h.lt
  have HN := Lib.hid (tnum_any v q hvq r hl w h)
  obtain ⟨hm1, hm2, hm3⟩ := many_is r
  have hl1 : Bd (numR r).2 := Nat.le_trans (numR_len r) hl
  have hL : cpC.list.rd r = itemsR cpC.rd (manyR r).1 (manyR r).2 := rfl
  rw [hL]
  have hl2 : Bd (manyR r).2 := by rw [hm1]; exact bd_check _ hl1
  rw [hm1] at hm2 hl2 ⊢
  have HC := Lib.hid (fun b W (hW : Tk v q (numR r).2 W) => tcheck_any v q hvq b (numR r).2 W hW)
  clear h hl hl1 hL hm1
  generalize numR r = nr at *
  obtain ⟨n, r1⟩ := nr
  generalize (manyR r).1 = N at *
  simp only at HN HC hm2 hl2 ⊢
  obtain ⟨r2, hr2⟩ : ∃ s, s = checkR (decide (0 ≤ n) && decide (n ≤ 10000)) r1 := ⟨_, rfl⟩
  rw [← hr2] at hm2 hl2 ⊢
  have HM2 := Lib.hid hm2
  have HR2 := Lib.hid hr2
  clear hm2 hr2
  go_enter Try.func63, Try.ntmps63
  go_upto_region 2 with (go_at_call 27; refine HN.out.mono ?_; rintro e w1 ⟨rfl, hR, hg⟩; have HT1 := Lib.hid hR; have HG1 := Lib.hid hg; clear hR hg)
  go_cut [] (fun wx => Tk v q r2 wx ∧ Gr2 q v w wx)
  case first =>
    by_cases h0 : 0 ≤ n
    · have d0 : decide (0 ≤ n) = true := decide_eq_true h0
      by_cases h1 : n ≤ 10000
      · have d1 : decide (n ≤ 10000) = true := decide_eq_true h1
        have HC1 := Lib.hid (HC.out true)
        clear HC
        go_wp2_with (go_at_call 61; (with_reducible refine (HC1.out _ HT1.out).mono ?_); rintro e w2 ⟨rfl, hR, hg⟩; have HT2 := Lib.hid hR; have HG2 := Lib.hid hg; clear hR hg)
        go_meet
        exact ⟨by rw [HR2.out, d0, d1]; exact HT2.out, HG1.out.trans HG2.out⟩
      · have d1 : decide (n ≤ 10000) = false := decide_eq_false h1
        have HC1 := Lib.hid (HC.out false)
        clear HC
        go_wp2_with (go_at_call 61; (with_reducible refine (HC1.out _ HT1.out).mono ?_); rintro e w2 ⟨rfl, hR, hg⟩; have HT2 := Lib.hid hR; have HG2 := Lib.hid hg; clear hR hg)
        go_meet
        exact ⟨by rw [HR2.out, d0, d1]; exact HT2.out, HG1.out.trans HG2.out⟩
    · have d0 : decide (0 ≤ n) = false := decide_eq_false h0
      have HC1 := Lib.hid (HC.out false)
      clear HC
      go_wp2_with (go_at_call 61; (with_reducible refine (HC1.out _ HT1.out).mono ?_); rintro e w2 ⟨rfl, hR, hg⟩; have HT2 := Lib.hid hR; have HG2 := Lib.hid hg; clear hR hg)
      go_meet
      exact ⟨by rw [HR2.out, d0]; exact HT2.out, HG1.out.trans HG2.out⟩
  case rest =>
    obtain ⟨hT2, hG2⟩ := hcut
    have HT2 := Lib.hid hT2
    have HG2 := Lib.hid hG2
    clear hT2 hG2 HN HC HT1 HG1 HR2
    go_wp2_with (fail)
    go_loopw [6, 7] (fun v6 v7 W => ∃ (i : Nat) (D : List Cp) (ri : Rd), v7 = .int .i64 (i : Int) ∧ Grow 75 5 cpV w.heap.size v6 D W ∧ Tk v q ri W ∧ Gr2 q v w W ∧ Bd ri ∧ Way cpC n N r2 i D ri) (fun _ v7 _ => N - (intOf v7).toNat)
    case atStart => exact ⟨0, [], r2, rfl, Grow.nil _, HT2.out, HG2.out, hl2, way_start _ _ _ _ HM2.out⟩
    case round =>
      obtain ⟨i, D, ri, rfl, hG, hT, hg2, hbd, hway⟩ := hrel
      obtain ⟨a0, c0, hv6⟩ := hG.slice
      rw [hway.len] at hv6
      subst hv6
      have HG := Lib.hid hG
      have HT := Lib.hid hT
      have HGg := Lib.hid hg2
      have HWY := Lib.hid hway
      have HDl := Lib.hid hway.len
      have hle := hway.le
      clear hG hT hg2 hway HT2 HG2 HM2
      by_cases he : ri.e = 0
      · obtain ⟨hv, hq⟩ : BlkAt v TRd [.pointer (some ⟨q, 0, none⟩), .bool false] wr ∧ RdAt PackRd q ri wr := by
          rcases HT.out.s with hh | ⟨e, _⟩
          · exact hh
          · omega
        obtain rfl : n = (N : Int) := HWY.out.n he
        have c1 := BlkAt.cell hv (i := 1) rfl
        have HWr : Hid (Calls Try.prog 76 #[.pointer (some ⟨v, 0, none⟩)] wr fun e w' => e = .returned (.int .i64 0) ∧ w' = wr) := by
          have := twrong_any v q false ri HT.out.ok wr hv hq
          rw [he] at this
          exact Lib.hid this
        clear hv hq
        by_cases hlt : i < N
        · skip
          have q0 : decide (i < N) = true := decide_eq_true hlt
          obtain ⟨x, r3, hx⟩ : ∃ a s, cpC.rd ri = (a, s) := ⟨_, _, rfl⟩
          have HX := Lib.hid (tcompare_at v q hvq ri hbd hx wr HT.out)
          have hWY := Lib.hid (HWY.out.next he hlt hx)
          have HBD := Lib.hid (bd_any cpC_shr hx hbd)
          unfold cpV at HX
          clear hx HWY
          go_wp2_with (first
            | (go_at_call 76; (with_reducible refine HWr.out.mono ?_); rintro e w2 ⟨rfl, rfl⟩)
            | (go_at_call 64; (with_reducible refine HX.out.mono ?_); rintro e w2 ⟨rfl, hR, hg⟩; have HT3 := Lib.hid hR; have HG3 := Lib.hid (HGg.out.trans hg); have hGr := hg.grow HG.out hlv.2 hlv.1; clear hR hg)
            | (at_builtin; refine wpList_append_grow rfl _ _ _ rfl Try.underlying23 _ _ infoCp rfl (by decide) rfl hGr HG3.out.size x _ rfl rfl (cp_one x) rfl (by rw [HDl.out]; unfold maxLen; omega) (by rw [HDl.out]; omega) ?_; intro v2 w6 hG6 hg6; obtain ⟨hT6, hg7⟩ := row_after hGr _ HT3.out HG3.out hlv hg6; have HT6 := Lib.hid hT6; have HG7 := Lib.hid hg7; have HG6 := Lib.hid hG6; clear hG6 hg6 hT6 hg7 hGr))
          go_roundw
          case rel => exact ⟨i + 1, _, r3, by go_num, HG6.out, HT6.out, HG7.out, HBD.out, hWY.out⟩
          case measure => simp [intOf]; omega
        · as_aux_lemma =>
          have q0 : decide (i < N) = false := decide_eq_false hlt
          have HD := Lib.hid (HWY.out.done (.inr hlt))
          clear HWY HWr
          go_wp2_with (fail)
          go_ret
          exact ⟨_, rfl, by rw [HD.out]; exact HG.out, by rw [HD.out]; exact HT.out, HGg.out⟩
      · have HD := Lib.hid (HWY.out.done (.inl he))
        clear HWY
        rcases HT.out.s with ⟨hv, hq⟩ | ⟨_, hv, _⟩
        · have c1 := BlkAt.cell hv (i := 1) rfl
          have hz := (e_cast HT.out.ok he).1
          have HWr := Lib.hid (twrong_any v q false ri HT.out.ok wr hv hq)
          clear hv hq
          by_cases hlt : (i : Int) < n
          · as_aux_lemma =>
            have q0 : decide ((i : Int) < n) = true := decide_eq_true hlt
            go_wp2_with (go_at_call 76; (with_reducible refine HWr.out.mono ?_); rintro e w2 ⟨rfl, rfl⟩)
            go_ret
            exact ⟨_, rfl, by rw [HD.out]; exact HG.out, by rw [HD.out]; exact HT.out, HGg.out⟩
          · as_aux_lemma =>
            have q0 : decide ((i : Int) < n) = false := decide_eq_false hlt
            clear HWr
            go_wp2_with (fail)
            go_ret
            exact ⟨_, rfl, by rw [HD.out]; exact HG.out, by rw [HD.out]; exact HT.out, HGg.out⟩
        · have c1 := BlkAt.cell hv (i := 1) rfl
          clear hv
          by_cases hlt : (i : Int) < n
          · as_aux_lemma =>
            have q0 : decide ((i : Int) < n) = true := decide_eq_true hlt
            go_wp2_with (fail)
            go_ret
            exact ⟨_, rfl, by rw [HD.out]; exact HG.out, by rw [HD.out]; exact HT.out, HGg.out⟩
          · as_aux_lemma =>
            have q0 : decide ((i : Int) < n) = false := decide_eq_false hlt
            go_wp2_with (fail)
            go_ret
            exact ⟨_, rfl, by rw [HD.out]; exact HG.out, by rw [HD.out]; exact HT.out, HGg.out⟩
set_option maxRecDepth 100000 in
set_option maxHeartbeats 2000000 in
theorem tthingsOp_any (v q : Nat) (hvq : v ≠ q) (r : Rd) (hl : Bd r) (w : World) (h : Tk v q r w) :
    Calls Try.prog 65 #[.pointer (some ⟨v, 0, none⟩), .func (.func 66) #[.pointer (some ⟨v, 0, none⟩)] #[]] w fun e w' => ∃ u, e = .returned u ∧ Grow 89 10 opV w.heap.size u (opC.list.rd r).1 w' ∧ Tk v q (opC.list.rd r).2 w' ∧ Gr2 q v w w' := by
  have hlv := h.lt
  have HN := Lib.hid (tnum_any v q hvq r hl w h)
  obtain ⟨hm1, hm2, hm3⟩ := many_is r
  have hl1 : Bd (numR r).2 := Nat.le_trans (numR_len r) hl
  have hL : opC.list.rd r = itemsR opC.rd (manyR r).1 (manyR r).2 := rfl
  rw [hL]
  have hl2 : Bd (manyR r).2 := by rw [hm1]; exact bd_check _ hl1
  rw [hm1] at hm2 hl2 ⊢
  have HC := Lib.hid (fun b W (hW : Tk v q (numR r).2 W) => tcheck_any v q hvq b (numR r).2 W hW)
  clear h hl hl1 hL hm1
  generalize numR r = nr at *
  obtain ⟨n, r1⟩ := nr
  generalize (manyR r).1 = N at *
  simp only at HN HC hm2 hl2 ⊢
  obtain ⟨r2, hr2⟩ : ∃ s, s = checkR (decide (0 ≤ n) && decide (n ≤ 10000)) r1 := ⟨_, rfl⟩
  rw [← hr2] at hm2 hl2 ⊢
  have HM2 := Lib.hid hm2
  have HR2 := Lib.hid hr2
  clear hm2 hr2
  go_enter Try.func65, Try.ntmps65
  go_upto_region 2 with (go_at_call 27; refine HN.out.mono ?_; rintro e w1 ⟨rfl, hR, hg⟩; have HT1 := Lib.hid hR; have HG1 := Lib.hid hg; clear hR hg)
  go_cut [] (fun wx => Tk v q r2 wx ∧ Gr2 q v w wx)
  case first =>
    by_cases h0 : 0 ≤ n
    · have d0 : decide (0 ≤ n) = true := decide_eq_true h0
      by_cases h1 : n ≤ 10000
      · have d1 : decide (n ≤ 10000) = true := decide_eq_true h1
        have HC1 := Lib.hid (HC.out true)
        clear HC
        go_wp2_with (go_at_call 61; (with_reducible refine (HC1.out _ HT1.out).mono ?_); rintro e w2 ⟨rfl, hR, hg⟩; have HT2 := Lib.hid hR; have HG2 := Lib.hid hg; clear hR hg)
        go_meet
        exact ⟨by rw [HR2.out, d0, d1]; exact HT2.out, HG1.out.trans HG2.out⟩
      · have d1 : decide (n ≤ 10000) = false := decide_eq_false h1
        have HC1 := Lib.hid (HC.out false)
        clear HC
        go_wp2_with (go_at_call 61; (with_reducible refine (HC1.out _ HT1.out).mono ?_); rintro e w2 ⟨rfl, hR, hg⟩; have HT2 := Lib.hid hR; have HG2 := Lib.hid hg; clear hR hg)
        go_meet
        exact ⟨by rw [HR2.out, d0, d1]; exact HT2.out, HG1.out.trans HG2.out⟩
    · have d0 : decide (0 ≤ n) = false := decide_eq_false h0
      have HC1 := Lib.hid (HC.out false)
      clear HC
      go_wp2_with (go_at_call 61; (with_reducible refine (HC1.out _ HT1.out).mono ?_); rintro e w2 ⟨rfl, hR, hg⟩; have HT2 := Lib.hid hR; have HG2 := Lib.hid hg; clear hR hg)
      go_meet
      exact ⟨by rw [HR2.out, d0]; exact HT2.out, HG1.out.trans HG2.out⟩
  case rest =>
    obtain ⟨hT2, hG2⟩ := hcut
    have HT2 := Lib.hid hT2
    have HG2 := Lib.hid hG2
    clear hT2 hG2 HN HC HT1 HG1 HR2
    go_wp2_with (fail)
    go_loopw [6, 7] (fun v6 v7 W => ∃ (i : Nat) (D : List Opr) (ri : Rd), v7 = .int .i64 (i : Int) ∧ Grow 89 10 opV w.heap.size v6 D W ∧ Tk v q ri W ∧ Gr2 q v w W ∧ Bd ri ∧ Way opC n N r2 i D ri) (fun _ v7 _ => N - (intOf v7).toNat)
    case atStart => exact ⟨0, [], r2, rfl, Grow.nil _, HT2.out, HG2.out, hl2, way_start _ _ _ _ HM2.out⟩
    case round =>
      obtain ⟨i, D, ri, rfl, hG, hT, hg2, hbd, hway⟩ := hrel
      obtain ⟨a0, c0, hv6⟩ := hG.slice
      rw [hway.len] at hv6
      subst hv6
      have HG := Lib.hid hG
      have HT := Lib.hid hT
      have HGg := Lib.hid hg2
      have HWY := Lib.hid hway
      have HDl := Lib.hid hway.len
      have hle := hway.le
      clear hG hT hg2 hway HT2 HG2 HM2
      by_cases he : ri.e = 0
      · obtain ⟨hv, hq⟩ : BlkAt v TRd [.pointer (some ⟨q, 0, none⟩), .bool false] wr ∧ RdAt PackRd q ri wr := by
          rcases HT.out.s with hh | ⟨e, _⟩
          · exact hh
          · omega
        obtain rfl : n = (N : Int) := HWY.out.n he
        have c1 := BlkAt.cell hv (i := 1) rfl
        have HWr : Hid (Calls Try.prog 76 #[.pointer (some ⟨v, 0, none⟩)] wr fun e w' => e = .returned (.int .i64 0) ∧ w' = wr) := by
          have := twrong_any v q false ri HT.out.ok wr hv hq
          rw [he] at this
          exact Lib.hid this
        clear hv hq
        by_cases hlt : i < N
        · skip
          have q0 : decide (i < N) = true := decide_eq_true hlt
          obtain ⟨x, r3, hx⟩ : ∃ a s, opC.rd ri = (a, s) := ⟨_, _, rfl⟩
          have HX := Lib.hid (top_at v q hvq ri hbd hx wr HT.out)
          have hWY := Lib.hid (HWY.out.next he hlt hx)
          have HBD := Lib.hid (bd_any opC_shr hx hbd)
          unfold opV at HX
          clear hx HWY
          go_wp2_with (first
            | (go_at_call 76; (with_reducible refine HWr.out.mono ?_); rintro e w2 ⟨rfl, rfl⟩)
            | (go_at_call 66; (with_reducible refine HX.out.mono ?_); rintro e w2 ⟨rfl, hR, hg⟩; have HT3 := Lib.hid hR; have HG3 := Lib.hid (HGg.out.trans hg); have hGr := hg.grow HG.out hlv.2 hlv.1; clear hR hg)
            | (at_builtin; refine wpList_append_grow rfl _ _ _ rfl Try.underlying24 _ _ infoOp rfl (by decide) rfl hGr HG3.out.size x _ rfl rfl (op_one x) rfl (by rw [HDl.out]; unfold maxLen; omega) (by rw [HDl.out]; omega) ?_; intro v2 w6 hG6 hg6; obtain ⟨hT6, hg7⟩ := row_after hGr _ HT3.out HG3.out hlv hg6; have HT6 := Lib.hid hT6; have HG7 := Lib.hid hg7; have HG6 := Lib.hid hG6; clear hG6 hg6 hT6 hg7 hGr))
          go_roundw
          case rel => exact ⟨i + 1, _, r3, by go_num, HG6.out, HT6.out, HG7.out, HBD.out, hWY.out⟩
          case measure => simp [intOf]; omega
        · as_aux_lemma =>
          have q0 : decide (i < N) = false := decide_eq_false hlt
          have HD := Lib.hid (HWY.out.done (.inr hlt))
          clear HWY HWr
          go_wp2_with (fail)
          go_ret
          exact ⟨_, rfl, by rw [HD.out]; exact HG.out, by rw [HD.out]; exact HT.out, HGg.out⟩
      · have HD := Lib.hid (HWY.out.done (.inl he))
        clear HWY
        rcases HT.out.s with ⟨hv, hq⟩ | ⟨_, hv, _⟩
        · have c1 := BlkAt.cell hv (i := 1) rfl
          have hz := (e_cast HT.out.ok he).1
          have HWr := Lib.hid (twrong_any v q false ri HT.out.ok wr hv hq)
          clear hv hq
          by_cases hlt : (i : Int) < n
          · as_aux_lemma =>
            have q0 : decide ((i : Int) < n) = true := decide_eq_true hlt
            go_wp2_with (go_at_call 76; (with_reducible refine HWr.out.mono ?_); rintro e w2 ⟨rfl, rfl⟩)
            go_ret
            exact ⟨_, rfl, by rw [HD.out]; exact HG.out, by rw [HD.out]; exact HT.out, HGg.out⟩
          · as_aux_lemma =>
            have q0 : decide ((i : Int) < n) = false := decide_eq_false hlt
            clear HWr
            go_wp2_with (fail)
            go_ret
            exact ⟨_, rfl, by rw [HD.out]; exact HG.out, by rw [HD.out]; exact HT.out, HGg.out⟩
        · have c1 := BlkAt.cell hv (i := 1) rfl
          clear hv
          by_cases hlt : (i : Int) < n
          · as_aux_lemma =>
            have q0 : decide ((i : Int) < n) = true := decide_eq_true hlt
            go_wp2_with (fail)
            go_ret
            exact ⟨_, rfl, by rw [HD.out]; exact HG.out, by rw [HD.out]; exact HT.out, HGg.out⟩
          · as_aux_lemma =>
            have q0 : decide ((i : Int) < n) = false := decide_eq_false hlt
            go_wp2_with (fail)
            go_ret
            exact ⟨_, rfl, by rw [HD.out]; exact HG.out, by rw [HD.out]; exact HT.out, HGg.out⟩
set_option maxRecDepth 100000 in
set_option maxHeartbeats 2000000 in
theorem tthingsKv_any (v q : Nat) (hvq : v ≠ q) (r : Rd) (hl : Bd r) (w : World) (h : Tk v q r w) :
    Calls Try.prog 77 #[.pointer (some ⟨v, 0, none⟩), .func (.func 78) #[.pointer (some ⟨v, 0, none⟩)] #[]] w fun e w' => ∃ u, e = .returned u ∧ Grow 101 6 kvV w.heap.size u (kvC.list.rd r).1 w' ∧ Tk v q (kvC.list.rd r).2 w' ∧ Gr2 q v w w' := by
  have hlv := h.lt
  have HN := Lib.hid (tnum_any v q hvq r hl w h)
  obtain ⟨hm1, hm2, hm3⟩ := many_is r
  have hl1 : Bd (numR r).2 := Nat.le_trans (numR_len r) hl
  have hL : kvC.list.rd r = itemsR kvC.rd (manyR r).1 (manyR r).2 := rfl
  rw [hL]
  have hl2 : Bd (manyR r).2 := by rw [hm1]; exact bd_check _ hl1
  rw [hm1] at hm2 hl2 ⊢
  have HC := Lib.hid (fun b W (hW : Tk v q (numR r).2 W) => tcheck_any v q hvq b (numR r).2 W hW)
  clear h hl hl1 hL hm1
  generalize numR r = nr at *
  obtain ⟨n, r1⟩ := nr
  generalize (manyR r).1 = N at *
  simp only at HN HC hm2 hl2 ⊢
  obtain ⟨r2, hr2⟩ : ∃ s, s = checkR (decide (0 ≤ n) && decide (n ≤ 10000)) r1 := ⟨_, rfl⟩
  rw [← hr2] at hm2 hl2 ⊢
  have HM2 := Lib.hid hm2
  have HR2 := Lib.hid hr2
  clear hm2 hr2
  go_enter Try.func77, Try.ntmps77
  go_upto_region 2 with (go_at_call 27; refine HN.out.mono ?_; rintro e w1 ⟨rfl, hR, hg⟩; have HT1 := Lib.hid hR; have HG1 := Lib.hid hg; clear hR hg)
  go_cut [] (fun wx => Tk v q r2 wx ∧ Gr2 q v w wx)
  case first =>
    by_cases h0 : 0 ≤ n
    · have d0 : decide (0 ≤ n) = true := decide_eq_true h0
      by_cases h1 : n ≤ 10000
      · have d1 : decide (n ≤ 10000) = true := decide_eq_true h1
        have HC1 := Lib.hid (HC.out true)
        clear HC
        go_wp2_with (go_at_call 61; (with_reducible refine (HC1.out _ HT1.out).mono ?_); rintro e w2 ⟨rfl, hR, hg⟩; have HT2 := Lib.hid hR; have HG2 := Lib.hid hg; clear hR hg)
        go_meet
        exact ⟨by rw [HR2.out, d0, d1]; exact HT2.out, HG1.out.trans HG2.out⟩
      · have d1 : decide (n ≤ 10000) = false := decide_eq_false h1
        have HC1 := Lib.hid (HC.out false)
        clear HC
        go_wp2_with (go_at_call 61; (with_reducible refine (HC1.out _ HT1.out).mono ?_); rintro e w2 ⟨rfl, hR, hg⟩; have HT2 := Lib.hid hR; have HG2 := Lib.hid hg; clear hR hg)
        go_meet
        exact ⟨by rw [HR2.out, d0, d1]; exact HT2.out, HG1.out.trans HG2.out⟩
    · have d0 : decide (0 ≤ n) = false := decide_eq_false h0
      have HC1 := Lib.hid (HC.out false)
      clear HC
      go_wp2_with (go_at_call 61; (with_reducible refine (HC1.out _ HT1.out).mono ?_); rintro e w2 ⟨rfl, hR, hg⟩; have HT2 := Lib.hid hR; have HG2 := Lib.hid hg; clear hR hg)
      go_meet
      exact ⟨by rw [HR2.out, d0]; exact HT2.out, HG1.out.trans HG2.out⟩
  case rest =>
    obtain ⟨hT2, hG2⟩ := hcut
    have HT2 := Lib.hid hT2
    have HG2 := Lib.hid hG2
    clear hT2 hG2 HN HC HT1 HG1 HR2
    go_wp2_with (fail)
    go_loopw [6, 7] (fun v6 v7 W => ∃ (i : Nat) (D : List Kvr) (ri : Rd), v7 = .int .i64 (i : Int) ∧ Grow 101 6 kvV w.heap.size v6 D W ∧ Tk v q ri W ∧ Gr2 q v w W ∧ Bd ri ∧ Way kvC n N r2 i D ri) (fun _ v7 _ => N - (intOf v7).toNat)
    case atStart => exact ⟨0, [], r2, rfl, Grow.nil _, HT2.out, HG2.out, hl2, way_start _ _ _ _ HM2.out⟩
    case round =>
      obtain ⟨i, D, ri, rfl, hG, hT, hg2, hbd, hway⟩ := hrel
      obtain ⟨a0, c0, hv6⟩ := hG.slice
      rw [hway.len] at hv6
      subst hv6
      have HG := Lib.hid hG
      have HT := Lib.hid hT
      have HGg := Lib.hid hg2
      have HWY := Lib.hid hway
      have HDl := Lib.hid hway.len
      have hle := hway.le
      clear hG hT hg2 hway HT2 HG2 HM2
      by_cases he : ri.e = 0
      · obtain ⟨hv, hq⟩ : BlkAt v TRd [.pointer (some ⟨q, 0, none⟩), .bool false] wr ∧ RdAt PackRd q ri wr := by
          rcases HT.out.s with hh | ⟨e, _⟩
          · exact hh
          · omega
        obtain rfl : n = (N : Int) := HWY.out.n he
        have c1 := BlkAt.cell hv (i := 1) rfl
        have HWr : Hid (Calls Try.prog 76 #[.pointer (some ⟨v, 0, none⟩)] wr fun e w' => e = .returned (.int .i64 0) ∧ w' = wr) := by
          have := twrong_any v q false ri HT.out.ok wr hv hq
          rw [he] at this
          exact Lib.hid this
        clear hv hq
        by_cases hlt : i < N
        · skip
          have q0 : decide (i < N) = true := decide_eq_true hlt
          obtain ⟨x, r3, hx⟩ : ∃ a s, kvC.rd ri = (a, s) := ⟨_, _, rfl⟩
          have HX := Lib.hid (tkv_at v q hvq ri hbd hx wr HT.out)
          have hWY := Lib.hid (HWY.out.next he hlt hx)
          have HBD := Lib.hid (bd_any kvC_shr hx hbd)
          unfold kvV at HX
          clear hx HWY
          go_wp2_with (first
            | (go_at_call 76; (with_reducible refine HWr.out.mono ?_); rintro e w2 ⟨rfl, rfl⟩)
            | (go_at_call 78; (with_reducible refine HX.out.mono ?_); rintro e w2 ⟨rfl, hR, hg⟩; have HT3 := Lib.hid hR; have HG3 := Lib.hid (HGg.out.trans hg); have hGr := hg.grow HG.out hlv.2 hlv.1; clear hR hg)
            | (at_builtin; refine wpList_append_grow rfl _ _ _ rfl Try.underlying97 _ _ infoKv rfl (by decide) rfl hGr HG3.out.size x _ rfl rfl (kv_one x) rfl (by rw [HDl.out]; unfold maxLen; omega) (by rw [HDl.out]; omega) ?_; intro v2 w6 hG6 hg6; obtain ⟨hT6, hg7⟩ := row_after hGr _ HT3.out HG3.out hlv hg6; have HT6 := Lib.hid hT6; have HG7 := Lib.hid hg7; have HG6 := Lib.hid hG6; clear hG6 hg6 hT6 hg7 hGr))
          go_roundw
          case rel => exact ⟨i + 1, _, r3, by go_num, HG6.out, HT6.out, HG7.out, HBD.out, hWY.out⟩
          case measure => simp [intOf]; omega
        · as_aux_lemma =>
          have q0 : decide (i < N) = false := decide_eq_false hlt
          have HD := Lib.hid (HWY.out.done (.inr hlt))
          clear HWY HWr
          go_wp2_with (fail)
          go_ret
          exact ⟨_, rfl, by rw [HD.out]; exact HG.out, by rw [HD.out]; exact HT.out, HGg.out⟩
      · have HD := Lib.hid (HWY.out.done (.inl he))
        clear HWY
        rcases HT.out.s with ⟨hv, hq⟩ | ⟨_, hv, _⟩
        · have c1 := BlkAt.cell hv (i := 1) rfl
          have hz := (e_cast HT.out.ok he).1
          have HWr := Lib.hid (twrong_any v q false ri HT.out.ok wr hv hq)
          clear hv hq
          by_cases hlt : (i : Int) < n
          · as_aux_lemma =>
            have q0 : decide ((i : Int) < n) = true := decide_eq_true hlt
            go_wp2_with (go_at_call 76; (with_reducible refine HWr.out.mono ?_); rintro e w2 ⟨rfl, rfl⟩)
            go_ret
            exact ⟨_, rfl, by rw [HD.out]; exact HG.out, by rw [HD.out]; exact HT.out, HGg.out⟩
          · as_aux_lemma =>
            have q0 : decide ((i : Int) < n) = false := decide_eq_false hlt
            clear HWr
            go_wp2_with (fail)
            go_ret
            exact ⟨_, rfl, by rw [HD.out]; exact HG.out, by rw [HD.out]; exact HT.out, HGg.out⟩
        · have c1 := BlkAt.cell hv (i := 1) rfl
          clear hv
          by_cases hlt : (i : Int) < n
          · as_aux_lemma =>
            have q0 : decide ((i : Int) < n) = true := decide_eq_true hlt
            go_wp2_with (fail)
            go_ret
            exact ⟨_, rfl, by rw [HD.out]; exact HG.out, by rw [HD.out]; exact HT.out, HGg.out⟩
          · as_aux_lemma =>
            have q0 : decide ((i : Int) < n) = false := decide_eq_false hlt
            go_wp2_with (fail)
            go_ret
            exact ⟨_, rfl, by rw [HD.out]; exact HG.out, by rw [HD.out]; exact HT.out, HGg.out⟩
end Go.Proofs.Ytlcblkmmkphpmaa
