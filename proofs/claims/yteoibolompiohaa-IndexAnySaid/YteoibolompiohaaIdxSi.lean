/- The law IndexRanges. Conditions: as each theorem says. -/
import Derived.Test.YteoibolompiohaaIdxSo
namespace Go.Proofs.Yteoibolompiohaa
open Go.RowKit

/-- What lies while the answer is spoilt. -/
structure Spoilt (w0 : World) (m : Mem) (hi : Nat) (C R : List Pr) (vl vw : Value) (xa : Option Addr) (xc : Nat) (wr : World) : Prop where
  tree : Tree w0.heap.size hi m C wr
  list : RefAt C vl wr
  want : RefAt R vw wr
  row : ∃ (base : Nat) (Q : List Pr), Q.length = R.length ∧ Grow PrT 2 prCells base (.slice xa R.length xc) Q wr ∧ w0.heap.size ≤ base ∧ ∀ b, (Value.slice xa R.length xc).ownBlock = some b → ¬ m.foot b
  below : Below w0.heap.size w0 wr
theorem Spoilt.grew {w0 : World} {m : Mem} {hi : Nat} {C R : List Pr} {vl vw : Value} {xa : Option Addr} {xc : Nat} {wr w' : World} (h : Spoilt w0 m hi C R vl vw xa xc wr) (hb : Below wr.heap.size wr w') : Spoilt w0 m hi C R vl vw xa xc w' := by
  obtain ⟨base, Q, q1, q2, q3, q4⟩ := h.row
  exact ⟨h.tree.grew hb, Grow.below h.list hb, Grow.below h.want hb, ⟨base, Q, q1, q2.below hb, q3, q4⟩, h.below.trans (hb.mono h.below.size)⟩
theorem Spoilt.store {w0 : World} {m : Mem} {hi : Nat} {C R : List Pr} {vl vw : Value} {b xc : Nat} {wr : World} (h : Spoilt w0 m hi C R vl vw (some ⟨b, 0, none⟩) xc wr) (i : Nat) (hi' : i < R.length) (x : Pr) :
    Spoilt w0 m hi C R vl vw (some ⟨b, 0, none⟩) xc (wr.setCells b (i * 2) (prCells x)) := by
  obtain ⟨base, Q, q1, q2, q3, q4⟩ := h.row
  obtain ⟨s1, s2⟩ := q2.stores prCells_len i (by omega) x _ rfl
  have hrow : ∀ {v : Value} {D : List Pr}, RefAt D v wr → RefAt D v (wr.setCells b (i * 2) (prCells x)) := fun {v D} hr => hr.kept2 s2 (fun b' hb e => by
    cases e
    exact hr.ne q2 (by decide) hb rfl)
  refine ⟨h.tree.away (Apart.of_grown (F := fun k => k = b) s2 (fun g e => by cases e; exact .inl rfl)) (fun k e => by subst e; exact q4 _ rfl), hrow h.list, hrow h.want, ⟨base, Q.set i x, by rw [List.length_set, q1], s1, q3, q4⟩, h.below.grown s2 h.below.size (fun j e => by cases e; have := own_base q2 b rfl; omega)⟩
set_option maxRecDepth 100000 in
set_option maxHeartbeats 2000000 in
theorem ranges_law (L : List Opr) (a : Option Addr) (c : Nat) (fr tk : Key) (most : Int) (w : World) (hL : L.length ≤ 9223372036854775807) (h : RowsAt 3 oprCells w (.slice a L.length c) L) :
    Calls Try.prog 4 #[.slice a L.length c, .string (bs fr), .string (bs tk), .int .i64 most] w fun e w' => e = .returned (.bool true) ∧ Below w.heap.size w w' := by
  have HO := Lib.hid h
  have HN := Lib.hid (new_any w)
  unfold NewSaid ptrV at HN
  obtain ⟨M, hM⟩ : ∃ M, M = min L.length 400 := ⟨_, rfl⟩
  have hM1 : M ≤ L.length := by omega
  have hM2 : M ≤ 400 := by omega
  have HM := Lib.hid hM
  clear h hM
  go_enter Try.func4, Try.ntmps4
  go_upto_region 2 with (go_at_call 10; (with_reducible refine HN.out.mono ?_); rintro e w1 ⟨m1, rfl, T1, b1⟩)
  have H1 : Hid (PlayAt w m1.g 0 [] (.slice none 0 0) w1) := Lib.hid ⟨m1, rfl, T1, Grow.nil _, b1⟩
  obtain ⟨g1, hg1⟩ : ∃ g1, g1 = m1.g := ⟨_, rfl⟩
  rw [← hg1] at H1 ⊢
  clear T1 b1 hg1 HN
  go_wp2
  go_loopg [10, 11] M (fun gk v4 v5 wr => ∃ (i : Nat) (va : Option Addr) (vc : Nat), v5 = .int .i64 (i : Int) ∧ v4 = .slice va (runC L i).length vc ∧ i + gk = M ∧ Hid (PlayAt w g1 i (runC L i) (.slice va (runC L i).length vc) wr))
  case atStart => exact ⟨0, none, 0, rfl, rfl, by omega, H1⟩
  case round =>
    obtain ⟨i, va, vc, rfl, rfl, hi, HA⟩ := hrel
    obtain ⟨m, rfl, T, hR, hB⟩ := HA.out
    by_cases hlt : i < M
    · have hiL : i < L.length := by omega
      obtain ⟨b, off, rfl, k0, k1, k2⟩ := ops_get HO.out i hiL
      have k0 := Grew.cell hB k0
      have k1 := Grew.cell hB k1
      have k2 := Grew.cell hB k2
      have hil : (i : Int) < (L.length : Int) := by omega
      have hi4 : (i : Int) < 400 := by omega
      have HP := Lib.hid (played_any T _ hR L[i] (by omega))
      have HRun := Lib.hid (runC_succ L i hiL)
      unfold PlayedGot oprV ptrV at HP
      generalize L[i] = o at *
      generalize runC L i = C at *
      have HB := Lib.hid hB
      clear hB T hR HA
      go_upto_region 7 with (go_at_call 11; (with_reducible refine HP.out.mono ?_); rintro e w2 ⟨m2, v2, rfl, T2, r2, u2⟩)
      obtain ⟨va2, vc2, hv2⟩ := r2.slice
      have HN2 : Hid (PlayAt w m.g (i + 1) (runC L (i + 1)) v2 w2) := Lib.hid (by rw [HRun.out]; exact PlayAt.step rfl HB.out T2 r2 u2)
      rw [← HRun.out] at hv2
      subst hv2
      clear T2 r2 u2 HP
      go_wp2
      go_roundg (gk - 1)
      case rel => exact ⟨i + 1, va2, vc2, by go_num, rfl, by omega, HN2⟩
      case measure => omega
    · obtain rfl : i = M := by omega
      have hor : L.length ≤ i ∨ i = 400 := by have := HM.out; omega
      have hl := T.len
      have hsrt := T.sorted
      have HRg := Lib.hid (fun (W : World) (TW : Tree w.heap.size i m (runC L i) W) => by have := tree_range TW fr tk most; rw [rng_ref hsrt] at this; exact this)
      have HNx := Lib.hid (fun (W : World) (TW : Tree w.heap.size i m (runC L i) W) => tree_next TW fr)
      unfold RangeSaid ptrV at HRg
      unfold NextSaid prV ptrV at HNx
      have HRr := Lib.hid (fun (W : World) (v : Value) (hv : RefAt (runC L i) v W) => refRange_any (runC L i) v (by omega) fr tk most W hv)
      have HRn := Lib.hid (fun (W : World) (v : Value) (hv : RefAt (runC L i) v W) => refNext_any (runC L i) v (by omega) fr W hv)
      unfold RRangeSaid at HRr
      unfold NextSaid prV at HRn
      have HAw := Lib.hid awake_any
      have HRl : Hid ((rngRef (runC L i) fr tk most).length ≤ 400) := Lib.hid (by have h1 : ((runC L i).filter (inR fr tk)).length ≤ (runC L i).length := List.length_filter_le _ _; unfold rngRef; rw [List.length_take]; omega)
      have HT := Lib.hid T
      have HR := Lib.hid hR
      have HB := Lib.hid hB
      clear T hR hB HA hsrt
      generalize rngRef (runC L i) fr tk most = R at *
      generalize runC L i = C at *
      generalize nextP (C.drop (spotF C fr)) = nx at *
      have hC : (C.length : Int) ≤ 400 := by omega
      have hexit : ¬ ((i : Int) < (L.length : Int) ∧ (i : Int) < 400) := by omega
      rcases hor with h0 | h0
      · have h1 : ¬ (i : Int) < (L.length : Int) := by omega
        clear h0 hexit
        go_upto_region 10 with (fail)
        go_upto_region 11 with (go_at_call 13; (with_reducible refine (HRg.out _ HT.out).mono ?_); rintro e w3 ⟨v3, rfl, hG3, hb3⟩)
        obtain ⟨xa, xc, hv3⟩ := hG3.slice
        have hap3 := HT.out.apart hG3
        rw [hv3] at hG3 hap3
        subst hv3
        have T3 := HT.out.grew hb3
        have R3 : RefAt C (.slice va C.length vc) w3 := Grow.below HR.out hb3
        have HB3 := Lib.hid (HB.out.trans (hb3.mono HB.out.size))
        have HR3 := Lib.hid (HRr.out w3 _ R3)
        have HT3 := Lib.hid (And.intro T3 (And.intro R3 (And.intro hG3 (And.intro hap3 HB.out.size))))
        clear T3 R3 hG3 hap3 hb3
        go_upto_region 12 with (go_at_call 15; (with_reducible refine HR3.out.mono ?_); rintro e w4 ⟨v4, rfl, hR4, hb4⟩)
        obtain ⟨wa, wc, hv4⟩ := hR4.slice
        rw [hv4] at hR4
        subst hv4
        have hSp4 : Hid (Spoilt w m i C R (.slice va C.length vc) (.slice wa R.length wc) xa xc w4) := Lib.hid ⟨HT3.out.1.grew hb4, Grow.below HT3.out.2.1 hb4, hR4, ⟨_, R, rfl, HT3.out.2.2.1.below hb4, HT3.out.2.2.2.2, HT3.out.2.2.2.1⟩, HB3.out.trans (hb4.mono HB3.out.size)⟩
        have HS4 := Lib.hid (same_any R xa wa xc wc (by have := HRl.out; omega) w4 ((HT3.out.2.2.1.below hb4).rows prCells_len) hR4)
        clear hR4 hb4
        go_upto_region 13 with (go_at_call 12; (with_reducible refine HS4.out.mono ?_); rintro e w5 ⟨rfl, hb5⟩)
        have hSp5 := Lib.hid (hSp4.out.grew hb5)
        clear hSp4 hb5 HS4 HT3 HR3 HB3
        go_wp2
        go_loopg [17] R.length (fun gk v wr => ∃ j : Nat, v = .int .i64 (j : Int) ∧ j + gk = R.length ∧ Hid (Spoilt w m i C R (.slice va C.length vc) (.slice wa R.length wc) xa xc wr))
        case atStart => exact ⟨0, rfl, by omega, hSp5⟩
        case round =>
          obtain ⟨j, rfl, hj, HSp⟩ := hrel
          by_cases hltj : j < R.length
          · obtain ⟨base, Q, q1, q2, q3, q4⟩ := HSp.out.row
            obtain ⟨xb, xc', hxv, _⟩ := q2.form (by omega)
            simp only [Value.slice.injEq] at hxv
            obtain ⟨rfl, -, rfl⟩ := hxv
            have hcc := q2.cells prCells_len (by rw [q1]) j (by omega)
            generalize Q[j]'(by omega) = yq at hcc
            have k0 := hcc 0 _ rfl
            have k1 := hcc 1 _ rfl
            rw [Nat.add_zero] at k0
            have z0 := q2.thaw (by rw [q1]) (j * 2)
            have z1 := q2.thaw (by rw [q1]) (j * 2 + 1)
            have hxl := q2.ltb rfl
            have hjl : (j : Int) < (R.length : Int) := by omega
            have hj4 : (j : Int) ≤ 400 := by have := HRl.out; omega
            have HSt : Hid (Spoilt w m i C R (.slice va C.length vc) (.slice wa R.length wc) (some ⟨xb, 0, none⟩) xc ((wr.setCell ⟨xb, j * 2, none⟩ (.string (bs [115, 112, 111, 105, 108, 116]))).setCell ⟨xb, j * 2 + 1, none⟩ (.int .i64 (-7)))) := Lib.hid (HSp.out.store j hltj ([115, 112, 111, 105, 108, 116], -7))
            clear hcc q1 q2 q3 q4 HSp
            go_wp2
            go_roundg (gk - 1)
            case rel => exact ⟨j + 1, by go_num, by omega, HSt⟩
            case measure => omega
          · obtain rfl : j = R.length := by omega
            have HN6 := Lib.hid (HNx.out _ HSp.out.tree)
            go_upto_region 18 with (go_at_call 16; (with_reducible refine HN6.out.mono ?_); rintro e w6 ⟨rfl, hb6⟩)
            have hb6a := Below.trans hb6 ((alloc_below w6 (.cells #[.string (bs nx.1.1), .int .i64 nx.1.2] PrT)).mono hb6.size)
            have bx6 := BlkAt.alloc_new w6 [.string (bs nx.1.1), .int .i64 nx.1.2] PrT
            obtain ⟨g6, hg6⟩ : ∃ g6, g6 = w6.heap.size := ⟨_, rfl⟩
            rw [← hg6] at bx6 ⊢
            clear hg6 hb6 HN6
            have bx6 : BlkAt g6 PrT [.string (bs nx.1.1), .int .i64 nx.1.2] (w6.alloc (.cells #[.string (bs nx.1.1), .int .i64 nx.1.2] PrT)) := bx6
            generalize (w6.alloc (.cells #[.string (bs nx.1.1), .int .i64 nx.1.2] PrT)) = w6a at *
            have hSp6 := HSp.out.grew hb6a
            have HN7 := Lib.hid (HRn.out _ _ hSp6.list)
            have HSp6 := Lib.hid hSp6
            have HBx6 := Lib.hid bx6
            clear hSp6 hb6a bx6 HSp
            go_upto_region 19 with (go_at_call 17; (with_reducible refine HN7.out.mono ?_); rintro e w7 ⟨rfl, hb7⟩)
            have hb7a := Below.trans hb7 ((alloc_below w7 (.cells #[.string (bs nx.1.1), .int .i64 nx.1.2] RfT)).mono hb7.size)
            have bx7 := BlkAt.alloc_new w7 [.string (bs nx.1.1), .int .i64 nx.1.2] RfT
            obtain ⟨g7, hg7⟩ : ∃ g7, g7 = w7.heap.size := ⟨_, rfl⟩
            rw [← hg7] at bx7 ⊢
            clear hg7 hb7 HN7
            have bx7 : BlkAt g7 RfT [.string (bs nx.1.1), .int .i64 nx.1.2] (w7.alloc (.cells #[.string (bs nx.1.1), .int .i64 nx.1.2] RfT)) := bx7
            generalize (w7.alloc (.cells #[.string (bs nx.1.1), .int .i64 nx.1.2] RfT)) = w7a at *
            have hSp7 := HSp6.out.grew hb7a
            have HBx67 := Lib.hid (And.intro (HBx6.out.grew hb7a) bx7)
            have HRg7 := Lib.hid (HRg.out _ hSp7.tree)
            have HSp7 := Lib.hid hSp7
            clear hSp7 hb7a bx7 HSp6 HBx6
            go_wp2_with (first
              | (go_at_call 13; (with_reducible refine HRg7.out.mono ?_); rintro e w8 ⟨v8, rfl, hG8, hb8⟩; obtain ⟨ya, yc, hv8⟩ := hG8.slice; have HS8 := Lib.hid (same_any R ya wa yc wc (by have := HRl.out; omega) w8 (by rw [← hv8]; exact hG8.rows prCells_len) (show RefAt R _ w8 from Grow.below HSp7.out.want hb8)); subst hv8; clear hG8)
              | (go_at_call 12; (with_reducible refine HS8.out.mono ?_); rintro e w9 ⟨rfl, hb9⟩; have x0 := ((HBx67.out.1.grew hb8).grew hb9).cell (i := 0) rfl; have x1 := ((HBx67.out.1.grew hb8).grew hb9).cell (i := 1) rfl; have y0 := ((HBx67.out.2.grew hb8).grew hb9).cell (i := 0) rfl; have y1 := ((HBx67.out.2.grew hb8).grew hb9).cell (i := 1) rfl)
              | (go_at_call 14; (with_reducible refine (HAw.out _).mono ?_); rintro e w10 ⟨rfl, hb10⟩))
            go_ret
            have B7 := HSp7.out.below
            have B8 := B7.trans (hb8.mono B7.size)
            have B9 := B8.trans (hb9.mono B8.size)
            exact ⟨rfl, B9.trans (hb10.mono B9.size)⟩
      · have h1 : ¬ (i : Int) < 400 := by omega
        clear hexit h0
        go_upto_region 10 with (fail)
        all_goals
          go_upto_region 11 with (go_at_call 13; (with_reducible refine (HRg.out _ HT.out).mono ?_); rintro e w3 ⟨v3, rfl, hG3, hb3⟩)
          obtain ⟨xa, xc, hv3⟩ := hG3.slice
          have hap3 := HT.out.apart hG3
          rw [hv3] at hG3 hap3
          subst hv3
          have T3 := HT.out.grew hb3
          have R3 : RefAt C (.slice va C.length vc) w3 := Grow.below HR.out hb3
          have HB3 := Lib.hid (HB.out.trans (hb3.mono HB.out.size))
          have HR3 := Lib.hid (HRr.out w3 _ R3)
          have HT3 := Lib.hid (And.intro T3 (And.intro R3 (And.intro hG3 (And.intro hap3 HB.out.size))))
          clear T3 R3 hG3 hap3 hb3
          go_upto_region 12 with (go_at_call 15; (with_reducible refine HR3.out.mono ?_); rintro e w4 ⟨v4, rfl, hR4, hb4⟩)
          obtain ⟨wa, wc, hv4⟩ := hR4.slice
          rw [hv4] at hR4
          subst hv4
          have hSp4 : Hid (Spoilt w m i C R (.slice va C.length vc) (.slice wa R.length wc) xa xc w4) := Lib.hid ⟨HT3.out.1.grew hb4, Grow.below HT3.out.2.1 hb4, hR4, ⟨_, R, rfl, HT3.out.2.2.1.below hb4, HT3.out.2.2.2.2, HT3.out.2.2.2.1⟩, HB3.out.trans (hb4.mono HB3.out.size)⟩
          have HS4 := Lib.hid (same_any R xa wa xc wc (by have := HRl.out; omega) w4 ((HT3.out.2.2.1.below hb4).rows prCells_len) hR4)
          clear hR4 hb4
          go_upto_region 13 with (go_at_call 12; (with_reducible refine HS4.out.mono ?_); rintro e w5 ⟨rfl, hb5⟩)
          have hSp5 := Lib.hid (hSp4.out.grew hb5)
          clear hSp4 hb5 HS4 HT3 HR3 HB3
          go_wp2
          go_loopg [17] R.length (fun gk v wr => ∃ j : Nat, v = .int .i64 (j : Int) ∧ j + gk = R.length ∧ Hid (Spoilt w m i C R (.slice va C.length vc) (.slice wa R.length wc) xa xc wr))
          case atStart => exact ⟨0, rfl, by omega, hSp5⟩
          case round =>
            obtain ⟨j, rfl, hj, HSp⟩ := hrel
            by_cases hltj : j < R.length
            · obtain ⟨base, Q, q1, q2, q3, q4⟩ := HSp.out.row
              obtain ⟨xb, xc', hxv, _⟩ := q2.form (by omega)
              simp only [Value.slice.injEq] at hxv
              obtain ⟨rfl, -, rfl⟩ := hxv
              have hcc := q2.cells prCells_len (by rw [q1]) j (by omega)
              generalize Q[j]'(by omega) = yq at hcc
              have k0 := hcc 0 _ rfl
              have k1 := hcc 1 _ rfl
              rw [Nat.add_zero] at k0
              have z0 := q2.thaw (by rw [q1]) (j * 2)
              have z1 := q2.thaw (by rw [q1]) (j * 2 + 1)
              have hxl := q2.ltb rfl
              have hjl : (j : Int) < (R.length : Int) := by omega
              have hj4 : (j : Int) ≤ 400 := by have := HRl.out; omega
              have HSt : Hid (Spoilt w m i C R (.slice va C.length vc) (.slice wa R.length wc) (some ⟨xb, 0, none⟩) xc ((wr.setCell ⟨xb, j * 2, none⟩ (.string (bs [115, 112, 111, 105, 108, 116]))).setCell ⟨xb, j * 2 + 1, none⟩ (.int .i64 (-7)))) := Lib.hid (HSp.out.store j hltj ([115, 112, 111, 105, 108, 116], -7))
              clear hcc q1 q2 q3 q4 HSp
              go_wp2
              go_roundg (gk - 1)
              case rel => exact ⟨j + 1, by go_num, by omega, HSt⟩
              case measure => omega
            · obtain rfl : j = R.length := by omega
              have HN6 := Lib.hid (HNx.out _ HSp.out.tree)
              go_upto_region 18 with (go_at_call 16; (with_reducible refine HN6.out.mono ?_); rintro e w6 ⟨rfl, hb6⟩)
              have hb6a := Below.trans hb6 ((alloc_below w6 (.cells #[.string (bs nx.1.1), .int .i64 nx.1.2] PrT)).mono hb6.size)
              have bx6 := BlkAt.alloc_new w6 [.string (bs nx.1.1), .int .i64 nx.1.2] PrT
              obtain ⟨g6, hg6⟩ : ∃ g6, g6 = w6.heap.size := ⟨_, rfl⟩
              rw [← hg6] at bx6 ⊢
              clear hg6 hb6 HN6
              have bx6 : BlkAt g6 PrT [.string (bs nx.1.1), .int .i64 nx.1.2] (w6.alloc (.cells #[.string (bs nx.1.1), .int .i64 nx.1.2] PrT)) := bx6
              generalize (w6.alloc (.cells #[.string (bs nx.1.1), .int .i64 nx.1.2] PrT)) = w6a at *
              have hSp6 := HSp.out.grew hb6a
              have HN7 := Lib.hid (HRn.out _ _ hSp6.list)
              have HSp6 := Lib.hid hSp6
              have HBx6 := Lib.hid bx6
              clear hSp6 hb6a bx6 HSp
              go_upto_region 19 with (go_at_call 17; (with_reducible refine HN7.out.mono ?_); rintro e w7 ⟨rfl, hb7⟩)
              have hb7a := Below.trans hb7 ((alloc_below w7 (.cells #[.string (bs nx.1.1), .int .i64 nx.1.2] RfT)).mono hb7.size)
              have bx7 := BlkAt.alloc_new w7 [.string (bs nx.1.1), .int .i64 nx.1.2] RfT
              obtain ⟨g7, hg7⟩ : ∃ g7, g7 = w7.heap.size := ⟨_, rfl⟩
              rw [← hg7] at bx7 ⊢
              clear hg7 hb7 HN7
              have bx7 : BlkAt g7 RfT [.string (bs nx.1.1), .int .i64 nx.1.2] (w7.alloc (.cells #[.string (bs nx.1.1), .int .i64 nx.1.2] RfT)) := bx7
              generalize (w7.alloc (.cells #[.string (bs nx.1.1), .int .i64 nx.1.2] RfT)) = w7a at *
              have hSp7 := HSp6.out.grew hb7a
              have HBx67 := Lib.hid (And.intro (HBx6.out.grew hb7a) bx7)
              have HRg7 := Lib.hid (HRg.out _ hSp7.tree)
              have HSp7 := Lib.hid hSp7
              clear hSp7 hb7a bx7 HSp6 HBx6
              go_wp2_with (first
                | (go_at_call 13; (with_reducible refine HRg7.out.mono ?_); rintro e w8 ⟨v8, rfl, hG8, hb8⟩; obtain ⟨ya, yc, hv8⟩ := hG8.slice; have HS8 := Lib.hid (same_any R ya wa yc wc (by have := HRl.out; omega) w8 (by rw [← hv8]; exact hG8.rows prCells_len) (show RefAt R _ w8 from Grow.below HSp7.out.want hb8)); subst hv8; clear hG8)
                | (go_at_call 12; (with_reducible refine HS8.out.mono ?_); rintro e w9 ⟨rfl, hb9⟩; have x0 := ((HBx67.out.1.grew hb8).grew hb9).cell (i := 0) rfl; have x1 := ((HBx67.out.1.grew hb8).grew hb9).cell (i := 1) rfl; have y0 := ((HBx67.out.2.grew hb8).grew hb9).cell (i := 0) rfl; have y1 := ((HBx67.out.2.grew hb8).grew hb9).cell (i := 1) rfl)
                | (go_at_call 14; (with_reducible refine (HAw.out _).mono ?_); rintro e w10 ⟨rfl, hb10⟩))
              go_ret
              have B7 := HSp7.out.below
              have B8 := B7.trans (hb8.mono B7.size)
              have B9 := B8.trans (hb9.mono B8.size)
              exact ⟨rfl, B9.trans (hb10.mono B9.size)⟩
/-- THE LAW IndexRanges. -/
theorem indexRanges_walk (W : World) (v : Value) (fs ts : ByteArray) (n : Int) (h : IsIops W v) (_ : fs.size ≤ maxLen) (_ : ts.size ≤ maxLen) (_ : (Lit.int .i64 n).wf = true) :
    Calls Try.prog 4 #[v, .string fs, .string ts, .int .i64 n] W fun e w' => e = .returned (.bool true) ∧ Below W.heap.size W w' := by
  obtain ⟨L, a, cap, rfl, l1, l2, hL, _⟩ := h
  obtain ⟨k, rfl⟩ : ∃ k, fs = bs k := ⟨fs.data.toList, (bs_of fs).symm⟩
  obtain ⟨tk, rfl⟩ : ∃ k, ts = bs k := ⟨ts.data.toList, (bs_of ts).symm⟩
  unfold maxLen at l2
  exact ranges_law L a cap k tk n W (by omega) hL
end Go.Proofs.Yteoibolompiohaa
