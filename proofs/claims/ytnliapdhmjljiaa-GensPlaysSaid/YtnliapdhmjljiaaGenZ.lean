/- The law GensCounts, walked. Conditions: as each theorem says. -/
import Derived.Test.YtnliapdhmjljiaaGenY
import Derived.Test.YtnliapdhmjljiaaGrow
namespace Go.Proofs.Ytnliapdhmjljiaa
open Go.RowKit

/-- What the law asks of the changes from a creation on. -/
structure CountAt (L : List (Int × Bool)) (c : Ch) (rev : Int) (n : Nat) : Prop where
  ver : c.ver = (n : Int)
  len : n ≤ L.length
  pos : 0 < n
  each : ∀ j (hj : j < L.length), j < n → L[j].1 ≤ c.rev ∧ L[j].2 = false
  stop : ∀ (h : n < L.length), c.rev < L[n].1
  head : ∀ (h : 0 < L.length), L[0].1 = c.cr
  lo : 1 ≤ c.cr
  mid : c.cr ≤ c.rev
  hi : c.rev ≤ rev
theorem count_at {s : Ks} (h : InvK s) (hw : wholeG s.gs) (rev : Int) (hz : atR (flat s.gs) rev ≠ zeroC) : ∃ n, CountAt (sinceG s.gs (atR (flat s.gs) rev).cr) (atR (flat s.gs) rev) rev n := by
  obtain ⟨P, Q, h1, h2, h3, h4, h5, h6, h7, h8⟩ := counts_law s.gs rev h.1 hw hz
  rw [since_eq, h1]
  generalize atR (flat s.gs) rev = c at *
  cases P with
  | nil => simp at h3
  | cons p P =>
    simp only [List.head?_cons, Option.some.injEq] at h3
    refine ⟨(p :: P).length, h2.symm, by simp, by simp, fun j hj hjn => ?_, fun h => ?_, fun h => ?_, h6, h7, h8⟩
    · rw [List.getElem_append_left (by simpa using hjn)]
      simp only [List.getElem_map]
      exact ⟨h4 _ (List.getElem_mem _), trivial⟩
    · rw [List.getElem_append_right (by simp)]
      exact h5 _ (List.getElem_mem _)
    · simpa using h3
def noCut (o : Int × Int) : Bool := decide (o.1 % 6 ≠ 5)
theorem whole_run (l : List (Int × Int)) (h : ∀ o ∈ l, noCut o = true) : wholeG (runK l).gs := by
  have key : ∀ (l : List (Int × Int)) (s : Ks), (∀ o ∈ l, noCut o = true) → wholeG s.gs → wholeG (l.foldl (fun s o => (stepK s o).1) s).gs := by
    intro l
    induction l with
    | nil => intro s _ hs; exact hs
    | cons o l ih =>
      intro s hl hs
      refine ih _ (fun x hx => hl x (by simp [hx])) ?_
      have ho : o.1 % 6 ≠ 5 := of_decide_eq_true (hl o (by simp))
      have hst : (stepK s o).1 = (tombK s o.2).1 ∨ (stepK s o).1 = (putK s o.2).1 := by
        unfold stepK
        by_cases h34 : o.1 % 6 = 3 ∨ o.1 % 6 = 4
        · exact .inl (by rw [if_pos h34])
        · exact .inr (by rw [if_neg h34, if_neg ho])
      show wholeG (stepK s o).1.gs
      rcases hst with e | e <;> rw [e]
      · unfold tombK
        split
        · exact hs
        · split
          · exact whole_tomb _ _ hs
          · exact hs
      · unfold putK
        split
        · exact hs
        · exact whole_put _ _ hs
  exact key l newK h (fun g hg => by simp [newK] at hg)
def keptOps (ops : List (Int × Int)) (k : Nat) : List (Int × Int) := (ops.take k).filter noCut
theorem kept_step (ops : List (Int × Int)) (k : Nat) (hk : k < ops.length) : keptOps ops (k + 1) = keptOps ops k ++ if noCut ops[k] = true then [ops[k]] else [] := by
  unfold keptOps
  rw [List.take_succ_eq_append_getElem hk, List.filter_append]
  congr 1
  by_cases h : noCut ops[k] = true <;> simp [h]
theorem kept_len (ops : List (Int × Int)) (k : Nat) : (keptOps ops k).length ≤ k := by
  unfold keptOps
  have h1 := List.length_filter_le noCut (ops.take k)
  have h2 : (ops.take k).length ≤ k := by rw [List.length_take]; omega
  omega
theorem kept_whole (ops : List (Int × Int)) (k : Nat) (hk : k ≤ 200) : (keptOps ops k).take 200 = keptOps ops k ∧ wholeG (runK (keptOps ops k)).gs := by
  refine ⟨List.take_of_length_le (by have := kept_len ops k; omega), whole_run _ (fun o ho => ?_)⟩
  exact (List.mem_filter.1 ho).2
theorem op_len (o : Int × Int) : (opCells o).length = 2 := rfl
theorem infoOp : (Try.prog.info? OpT).map (fun i => (i.zero, i.size, i.bytes)) = some (some (.agg #[.int .i64 0, .int .i64 0]), 2, 16) := by kernel_rfl
abbrev GrowOp := Grow (α := Int × Int) OpT 2 opCells
set_option maxRecDepth 100000 in
set_option maxHeartbeats 4000000 in
theorem counts_any (a : Option Addr) (c : Nat) (ops : List (Int × Int)) (rev : Int) (w : World) (h : RowsAt 2 opCells w (.slice a ops.length c) ops) (hl : ops.length ≤ 9223372036854775807) :
    Calls Try.prog 5 #[.slice a ops.length c, .int .i64 rev] w fun e w' => e = .returned (.bool true) ∧ Below w.heap.size w w' := by
  have HO := Lib.hid h
  have HK := Lib.hid (fun (o : Int × Int) W => kind_any o.1 o.2 W)
  have HAw := Lib.hid (fun W => awake_any W)
  clear h
  go_enter Try.func5, Try.ntmps5
  go_wp2_with (fail)
  go_loopw [5, 6] (fun out i wr => ∃ (k : Nat) (v : Value), k ≤ ops.length ∧ k ≤ 200 ∧ i = .int .i64 (k : Int) ∧ out = v ∧ GrowOp w.heap.size v (keptOps ops k) wr ∧ Below w.heap.size w wr) (fun _ i _ => 200 - (intOf i).toNat)
  case atStart => exact ⟨0, _, Nat.zero_le _, by omega, rfl, rfl, Grow.nil w, Below.refl _ _⟩
  case round =>
    obtain ⟨k, v, hk, hk2, rfl, rfl, hG, hB⟩ := hrel
    have hkl := kept_len ops k
    by_cases hc : k < ops.length ∧ k < 200
    · obtain ⟨hlt, h2⟩ := hc
      obtain ⟨b, off, rfl, hr⟩ := (HO.out.grew hB).get k hlt
      have hstep := kept_step ops k hlt
      have c0 : wr.cell? ⟨b, off + k * 2, none⟩ = some (.int .i64 ops[k].1) := hr 0 _ rfl
      have c1 : wr.cell? ⟨b, off + k * 2 + 1, none⟩ = some (.int .i64 ops[k].2) := hr 1 _ rfl
      have HKk := Lib.hid (HK.out ops[k] wr)
      have hd2 : decide ((k : Int) < 200) = true := decide_eq_true (by omega)
      have hsz := hB.size
      clear hr
      generalize ops[k] = o at *
      obtain ⟨ok, orev⟩ := o
      by_cases h5 : ok % 6 = 5
      · have HS : Hid (keptOps ops (k + 1) = keptOps ops k) := Lib.hid (by rw [hstep, if_neg (by simp [noCut, h5]), List.append_nil])
        simp only [h5] at HKk
        have HG := Lib.hid hG
        have HB := Lib.hid hB
        clear hstep h5 hG hB
        go_wp2_with (go_at_call 10; (with_reducible refine HKk.out.mono ?_); rintro e w1 ⟨rfl, hb1⟩)
        go_roundw
        case rel => exact ⟨k + 1, _, by omega, by omega, by go_num, rfl, by rw [HS.out]; exact HG.out.below hb1, HB.out.trans (hb1.mono hsz)⟩
        case measure => simp [intOf]; omega
      · have HS : Hid (keptOps ops (k + 1) = keptOps ops k ++ [(ok, orev)]) := Lib.hid (by rw [hstep, if_pos (by simp [noCut, h5])])
        simp only at HKk c0 c1
        have d5 : (ok % 6 == 5) = false := by rw [beq_eq_false_iff_ne]; exact h5
        have HG := Lib.hid hG
        have HB := Lib.hid hB
        clear hstep h5 hG hB
        generalize ok % 6 = kk at *
        go_wp2_with (
          first
          | (go_at_call 10; (with_reducible refine HKk.out.mono ?_); rintro e w1 ⟨rfl, hb1⟩; have c0 := Grew.cell hb1 c0; have c1 := Grew.cell hb1 c1; have hG1 := HG.out.below hb1; have hB1 := HB.out.trans (hb1.mono hsz))
          | (at_builtin; refine wpList_append_grow rfl _ _ _ rfl Try.underlying22 _ _ infoOp rfl (by decide) rfl hG1 hB1.size (ok, orev) _ rfl rfl (by intro u hu; simp [opCells] at hu; rcases hu with rfl | rfl <;> rfl) rfl (by unfold maxLen; omega) (by omega) ?_; intro v' w2 hG2 hg2; obtain ⟨a2, c2, rfl⟩ := hG2.slice; have HB2 := Lib.hid (hB1.trans (((alloc_below w1 _).mono hB1.size).trans ((hG1.below (alloc_below w1 _)).old hg2 (by simp; have := hB1.size; omega)))); have HG2 := Lib.hid hG2; clear hG2 hg2))
        go_roundw
        case rel => exact ⟨k + 1, _, by omega, by omega, by go_num, rfl, by rw [HS.out]; have := HG2.out; rw [List.length_append] at this; exact this, HB2.out⟩
        case measure => simp [intOf]; omega
    · have dex : decide (k < ops.length) = false ∨ (decide (k < ops.length) = true ∧ decide ((k : Int) < 200) = false) := by
        by_cases h1 : k < ops.length
        · exact .inr ⟨decide_eq_true h1, decide_eq_false (by omega)⟩
        · exact .inl (decide_eq_false h1)
      have hinv := inv_run (keptOps ops k)
      obtain ⟨ht, hwh⟩ := kept_whole ops k hk2
      obtain ⟨a1, c1, rfl⟩ := hG.slice
      have HD := Lib.hid (done_way a1 c1 (keptOps ops k) wr (hG.rows op_len) (by omega))
      rw [ht] at HD
      have HB := Lib.hid hB
      have hsz := hB.size
      clear ht hG hB HO HK hc
      generalize keptOps ops k = M at *
      generalize runK M = s at *
      by_cases hz : atR (flat s.gs) rev = zeroC
      · have HA := Lib.hid (fun n (hn : n ≤ 1000) W (hW : Way wr.heap.size wr.heap.size n s wr W) => at_way hW hn rev)
        rw [hz] at HA
        simp only [chV, zeroC, show decide ((0 : Int) < 0) = false from rfl] at HA
        clear hinv hwh hz
        rcases dex with d1 | ⟨d1, d2⟩
        all_goals
          go_wp2_with (
            first
            | (go_at_call 22; (with_reducible refine HD.out.mono ?_); rintro e w1 ⟨rfl, l1⟩)
            | (go_at_call 16; (with_reducible refine (HA.out 200 (by decide) _ l1).mono ?_); rintro e w4 ⟨rfl, l4, _⟩; have l4' := l4.boxed (.cells #[.int .i64 0, .int .i64 0, .int .i64 0] SeenT); have x7 := BlkAt.alloc_new w4 [.int .i64 0, .int .i64 0, .int .i64 0] SeenT; have y0 := x7.cell (i := 0) rfl; have y1 := x7.cell (i := 1) rfl; have y2 := x7.cell (i := 2) rfl; clear x7)
            | (go_at_call 21; (with_reducible refine (HAw.out _).mono ?_); rintro e w10 ⟨rfl, b10⟩; have B10 := HB.out.trans ((l4'.below.trans (b10.mono l4'.size)).mono hsz)))
          go_ret
          exact ⟨rfl, B10⟩
      · obtain ⟨n, hC⟩ := count_at hinv hwh rev hz
        have HA := Lib.hid (fun n (hn : n ≤ 1000) W (hW : Way wr.heap.size wr.heap.size n s wr W) => at_way hW hn rev)
        have HS := Lib.hid (fun n (hn : n ≤ 1000) W (hW : Way wr.heap.size wr.heap.size n s wr W) => since_way hW hn (atR (flat s.gs) rev).cr)
        have HSm := Lib.hid (fun W (hW : Way wr.heap.size wr.heap.size 200 s wr W) => since_small hW.live (by omega) (atR (flat s.gs) rev).cr)
        generalize sinceG s.gs (atR (flat s.gs) rev).cr = L at *
        generalize atR (flat s.gs) rev = ch at *
        obtain ⟨crev, ccr, cver, cg⟩ := ch
        obtain ⟨q1, q2, q3, q4, q5, q6, q7, q8, q9⟩ := hC
        simp only at q1 q4 q5 q6 q7 q8 q9 HS HA
        subst q1
        have hpos : decide (0 < crev) = true := decide_eq_true (by omega)
        simp only [chV, hpos] at HA
        have Q4 := Lib.hid q4
        have Q5 := Lib.hid q5
        have q6 := q6 (by omega)
        clear hinv hwh hz q4 q5 hpos
        rcases dex with d1 | ⟨d1, d2⟩
        all_goals
          go_wp2_with (
            first
            | (go_at_call 22; (with_reducible refine HD.out.mono ?_); rintro e w1 ⟨rfl, l1⟩; have hL := HSm.out _ l1)
            | (go_at_call 16; (with_reducible refine (HA.out 200 (by decide) _ l1).mono ?_); rintro e w4 ⟨rfl, l4, _⟩; have l4' := l4.boxed (.cells #[.int .i64 ccr, .int .i64 crev, .int .i64 (n : Int)] SeenT); have x7 := BlkAt.alloc_new w4 [.int .i64 ccr, .int .i64 crev, .int .i64 (n : Int)] SeenT; have y0 := x7.cell (i := 0) rfl)
            | (go_at_call 18; (with_reducible refine (HS.out 200 (by decide) _ l4').mono ?_); rintro e w5 ⟨v5, rfl, g5, l5⟩; obtain ⟨g, c5, rfl, hg, hx⟩ := got_at g5 (by omega); have HX7 := Lib.hid (x7.grew g5.below); have HX := Lib.hid hx; have HB5 := Lib.hid (HB.out.trans (l5.below.mono hsz)); clear g5 hx x7 y0))
          go_loopw [10, 12] (fun cv iv W => ∃ j : Nat, j ≤ n ∧ cv = .int .i64 (j : Int) ∧ iv = .int .i64 (j : Int) ∧ Below w5.heap.size w5 W) (fun _ iv _ => n - (intOf iv).toNat)
          case atStart => exact ⟨0, Nat.zero_le _, rfl, rfl, Below.refl _ _⟩
          case round =>
            obtain ⟨j, hj, rfl, rfl, hB6⟩ := hrel
            have X7 := HX7.out.grew hB6
            have y0 := X7.cell (i := 0) rfl
            have y1 := X7.cell (i := 1) rfl
            have y2 := X7.cell (i := 2) rfl
            have hs6 := hB6.size
            clear X7
            by_cases hjn : j < n
            · have hjl : j < L.length := by omega
              obtain ⟨f1, f2⟩ := Q4.out j hjl hjn
              have z0 := Grew.cell hB6 (HX.out j hjl).1
              have z1 := Grew.cell hB6 (HX.out j hjl).2
              have e1 : decide (j < L.length) = true := decide_eq_true hjl
              have e2 : decide (L[j].1 ≤ crev) = true := decide_eq_true f1
              rw [f2] at z1
              clear f1 f2
              generalize L[j].1 = x at *
              go_wp2_with (fail)
              go_quiet (fail)
              go_wp2
              go_roundw
              case rel => exact ⟨j + 1, by omega, by go_num, by go_num, hB6.trans ((below_drew _ _).mono hs6)⟩
              case measure => simp [intOf]; omega
            · obtain rfl : j = n := by omega
              have z00 := Grew.cell hB6 (HX.out 0 (by omega)).1
              rw [q6] at z00
              have e3 : decide (0 < L.length) = true := decide_eq_true (by omega)
              have e4 : decide (1 ≤ ccr) = true := decide_eq_true q7
              have e5 : decide (ccr ≤ crev) = true := decide_eq_true q8
              have e6 : decide (crev ≤ rev) = true := decide_eq_true q9
              simp only [Nat.zero_mul] at z00
              have hend : decide (j < L.length) = false ∨ (j < L.length ∧ decide (j < L.length) = true ∧ ∃ x, wr.cell? ⟨g, j * 2, none⟩ = some (.int .i64 x) ∧ decide (x ≤ crev) = false) := by
                by_cases h1 : j < L.length
                · exact .inr ⟨h1, decide_eq_true h1, _, Grew.cell hB6 (HX.out j h1).1, decide_eq_false (by have := Q5.out h1; omega)⟩
                · exact .inl (decide_eq_false h1)
              clear Q4 Q5 q6 q7 q8 q9
              rcases hend with e1 | ⟨h1, e1, x, z1, e2⟩
              all_goals
                go_wp2_with (fail)
                go_quiet (fail)
                have y0 : (wr.drewN nq).cell? _ = _ := y0
                have y1 : (wr.drewN nq).cell? _ = _ := y1
                have y2 : (wr.drewN nq).cell? _ = _ := y2
                have z00 : (wr.drewN nq).cell? _ = _ := z00
                have HB8 := Lib.hid (HB5.out.trans ((hB6.trans ((below_drew wr nq).mono hs6)).mono (by have := HB5.out.size; omega)))
                clear hB6
                generalize wr.drewN nq = wq at *
                go_wp2_with (fail)
                have hex := Grew.all wq
                refine wp_region_grew (by kernel_rfl) (by kernel_rfl) ?_
                repeat (first | go_big_quiet_skip | (go_big_quiet_want; first | (refine quiet_load_cell 3 _ rfl ⟨w4.heap.size, 0, none⟩ rfl _ _ Try.underlying3 rfl (fun W hW => Grew.cell hW y0) ?_; simp only [Act.put, List.setIfInBounds_toArray, List.set_cons_succ, List.set_cons_zero]; go_big_quiet_on) | (refine quiet_load_cell 3 _ rfl ⟨w4.heap.size, 1, none⟩ rfl _ _ Try.underlying3 rfl (fun W hW => Grew.cell hW y1) ?_; simp only [Act.put, List.setIfInBounds_toArray, List.set_cons_succ, List.set_cons_zero]; go_big_quiet_on) | (refine quiet_load_cell 3 _ rfl ⟨w4.heap.size, 2, none⟩ rfl _ _ Try.underlying3 rfl (fun W hW => Grew.cell hW y2) ?_; simp only [Act.put, List.setIfInBounds_toArray, List.set_cons_succ, List.set_cons_zero]; go_big_quiet_on) | (refine quiet_load_cell 3 _ rfl ⟨g, 0, none⟩ rfl _ _ Try.underlying3 rfl (fun W hW => Grew.cell hW z00) ?_; simp only [Act.put, List.setIfInBounds_toArray, List.set_cons_succ, List.set_cons_zero]; go_big_quiet_on) | (go_big_quiet_op; first | go_big_quiet_on | (apply Exists.intro; refine ⟨fun W hW => ?_, ?_⟩; (first | exact rfl | (go_at_call 21; with_reducible exact Calls.grew hW (HAw.out _))); go_big_quiet_on))))
                refine wpQuiet_nil ?_
                intro w9 hw9
                have B9 := HB8.out.trans (Below.mono (show Below wq.heap.size wq w9 from hw9) HB8.out.size)
                go_wp2
                go_ret
                exact ⟨rfl, B9⟩
/-- THE LAW. -/
theorem gensCounts_walk (W : World) (v0 : Value) (rev : Int) (h0 : IsOps W v0) (w1 : (Lit.int .i64 rev).wf = true) :
    Calls Try.prog 5 #[v0, .int .i64 rev] W fun e w' => e = .returned (.bool true) ∧ Below W.heap.size W w' := by
  obtain ⟨L, a, c, rfl, h1, h2, h3, _⟩ := h0
  unfold maxLen at h2
  exact counts_any a c L rev W h3 (by omega)
end Go.Proofs.Ytnliapdhmjljiaa
