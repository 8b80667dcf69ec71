/- The law of a node that is alone, walked. Conditions: as each theorem says. -/
import Derived.Test.YtkidhbflojlmoaaZabY
namespace Go.Proofs.Ytkidhbflojlmoaa
open Go.RowKit

/-- The law's node at the head of round i. -/
def AtHead (W0 : World) (S : List (List UInt8)) (g i : Nat) (w : World) : Prop :=
  ∃ n L, AlAt W0 g n L (i + 1) w ∧ L.map Ent.b = S.take i
theorem AtHead.len {W0 : World} {S : List (List UInt8)} {i : Nat} {L : List Ent} (h : L.map Ent.b = S.take i) (hi : i ≤ S.length) : L.length = i := by
  have := congrArg List.length h
  rw [List.length_map, List.length_take] at this
  omega
set_option maxRecDepth 100000 in
set_option maxHeartbeats 8000000 in
theorem alone_any (S : List (List UInt8)) (a : Option Addr) (cap : Nat) (B : List Bool) (b : Option Addr) (capb : Nat) (x : Int) (hx : (Lit.int .i64 x).wf = true) (w : World) (hS : StrsAt w (.slice a S.length cap) S) (hB : RowsAt 1 boolCells w (.slice b B.length capb) B) (hsl : S.length ≤ maxLen) (hbl : B.length ≤ maxLen) (hst : ∀ s ∈ S, s.length ≤ maxLen) :
    Calls Try.prog 3 #[.slice a S.length cap, .slice b B.length capb, .int .i64 x] w fun e w' => e = .returned (.bool true) ∧ Below w.heap.size w w' := by
  have HN := new_zero
  have HAw := Lib.hid awake_any
  unfold ptrV at HN
  have HN := Lib.hid HN
  have HS := Lib.hid hS
  have HB := Lib.hid hB
  have HSt0 : ∀ (g : Nat) W, NodeAt g nd0 W → w.heap.size ≤ g → Below w.heap.size w W → Calls Try.prog 6 #[.pointer (some ⟨g, 0, none⟩)] W fun e w' => e = .returned (.slice none 0 0) ∧ AtHead w S g 0 w' := fun g W hN hg hb =>
    (Start_one g nd0 nd0_lone (Int.le_refl _) (by decide) (Int.le_refl _) [] (Int.le_refl _) (Int.le_refl _) none rfl rfl W hN (log_nil W) (fun b hb => by cases hb)).mono fun e w' ⟨he, ⟨q, hq⟩, hg'⟩ => ⟨he, _, [], ⟨hq, Al.first q, log_nil w', (fun b hb => by cases hb), hg, below_row hb hg hg'⟩, by simp⟩
  have HSt0 := Lib.hid HSt0
  clear hS hB
  by_cases h50 : 50 < S.length
  · as_aux_lemma =>
    have e50 : decide ((50 : Int) < (S.length : Int)) = true := decide_eq_true (by omega)
    clear HSt0
    go_enter Try.func3, Try.ntmps3
    go_wp2_with (first
      | (go_at_call 4; (with_reducible refine (HN.out _).mono ?_); rintro e w1 ⟨g, rfl, -, -, hb1⟩)
      | (go_at_call 5; (with_reducible refine (HAw.out _).mono ?_); rintro e w2 ⟨rfl, hb2⟩))
    go_ret
    exact ⟨rfl, hb1.trans (hb2.mono hb1.size)⟩
  · have e50 : decide ((50 : Int) < (S.length : Int)) = false := decide_eq_false (by omega)
    have hs50 : S.length ≤ 50 := by omega
    go_enter Try.func3, Try.ntmps3
    go_upto_region 5 with (first
      | (go_at_call 4; (with_reducible refine (HN.out _).mono ?_); rintro e w1 ⟨g, rfl, hg, hN1, hb1⟩)
      | (go_at_call 6; (with_reducible refine (HSt0.out _ _ hN1 hg hb1).mono ?_); rintro e w2 ⟨rfl, hH⟩))
    clear hN1 hb1 HN HSt0
    go_wp2
    go_loopg [9] S.length (fun gk v9 wr => ∃ i : Nat, v9 = .int .i64 (i : Int) ∧ i + gk = S.length ∧ Hid (AtHead w S g i wr))
    case atStart => exact ⟨0, rfl, by omega, Lib.hid hH⟩
    case round =>
      clear hH
      obtain ⟨i, rfl, hig, HH⟩ := hrel
      obtain ⟨n, L, hA, hLS⟩ := HH.out
      have hLi : L.length = i := AtHead.len (W0 := w) hLS (by omega)
      by_cases hi : i < S.length
      · obtain ⟨ba, oa, rfl, hcell⟩ := strs_get (StrsAt.grew HS.out hA.below) i hi
        unfold str at hcell
        have hI : (i : Int) < (S.length : Int) := by omega
        by_cases h1000 : 1000 < S[i].length
        · as_aux_lemma =>
          have e1000 : decide ((1000 : Int) < ((bs S[i]).size : Int)) = true := by rw [bs_size]; exact decide_eq_true (by omega)
          have HB' := Lib.hid hA.below
          clear hA hLS hLi HH
          go_wp2_with (go_at_call 5; (with_reducible refine (HAw.out _).mono ?_); rintro e w3 ⟨rfl, hb3⟩)
          go_ret
          exact ⟨rfl, HB'.out.trans (hb3.mono HB'.out.size)⟩
        · have e1000 : decide ((1000 : Int) < ((bs S[i]).size : Int)) = false := by rw [bs_size]; exact decide_eq_false (by omega)
          have HP := Lib.hid (hA.Propose S[i] (by omega))
          have HTk : ∀ z, Hid ((snocE L z S[i]).map Ent.b = S.take (i + 1) ∧ (snocE L z S[i]).length = i + 1) := fun z => Lib.hid ⟨by unfold snocE; rw [List.map_append, hLS, List.take_succ_eq_append_getElem hi]; rfl, by unfold snocE; rw [List.length_append, hLi]; rfl⟩
          have ew : IntKind.i64.wrap ((i : Int) + 1) = (i : Int) + 1 := IntWalk.i64_in _ (by omega)
          clear hA hLS HH
          go_upto_region 11 with (go_at_call 7; (with_reducible refine HP.out.mono ?_); rintro e w3 ⟨rfl, n3, z, hA3, hac3⟩)
          obtain ⟨hTk1, hTk2⟩ := (HTk z).out
          have HT := Lib.hid hTk1
          clear hTk1 HTk HP
          generalize hL3 : snocE L z S[i] = L3 at *
          clear hL3 hLi L
          have HC := hA3.committed
          rw [hTk2] at HC
          have HC := Lib.hid HC
          have HA3 := Lib.hid hA3
          clear hA3
          go_upto_region 13 with (go_at_call 8; (with_reducible refine HC.out.mono ?_); rintro e w4 ⟨ac, cc, rfl, hb4⟩)
          have hA4 := HA3.out.grew hb4
          have HA4 := Lib.hid hA4
          by_cases hib : i < B.length
          · obtain ⟨bb, ob, rfl, hrg⟩ := RowsAt.get (RowsAt.grew HB.out hA4.below) i hib
            have hbc : w4.cell? ⟨bb, ob + i, none⟩ = some (.bool B[i]) := by have := hrg 0 (.bool B[i]) rfl; simpa using this
            have hIb : (i : Int) < (B.length : Int) := by omega
            clear hrg hA4 hb4
            cases hB' : B[i] with
            | true =>
              rw [hB'] at hbc
              have HSt := Lib.hid (HA4.out.Start (by omega) (fun _ => hac3))
              clear hB'
              go_wp2_with (go_at_call 6; (with_reducible refine HSt.out.mono ?_); rintro e w5 ⟨rfl, n5, hA5⟩)
              go_roundg (gk - 1)
              case rel => exact ⟨i + 1, by go_num, by omega, Lib.hid ⟨n5, L3, hA5, HT.out⟩⟩
              case measure => omega
            | false =>
              rw [hB'] at hbc
              clear hB'
              go_wp2
              go_roundg (gk - 1)
              case rel => exact ⟨i + 1, by go_num, by omega, Lib.hid ⟨n3, L3, ⟨HA4.out.at_, HA4.out.al.mono (by omega), HA4.out.log, HA4.out.own, HA4.out.g0, HA4.out.below⟩, HT.out⟩⟩
              case measure => omega
          · have hIb : decide ((i : Int) < (B.length : Int)) = false := decide_eq_false (by omega)
            clear hA4 hb4
            go_wp2
            go_roundg (gk - 1)
            case rel => exact ⟨i + 1, by go_num, by omega, Lib.hid ⟨n3, L3, ⟨HA4.out.at_, HA4.out.al.mono (by omega), HA4.out.log, HA4.out.own, HA4.out.g0, HA4.out.below⟩, HT.out⟩⟩
            case measure => omega
      · obtain rfl : i = S.length := by omega
        have HA := Lib.hid hA
        have HLS := Lib.hid hLS
        have HLi := Lib.hid hLi
        clear hLi
        have HState := Lib.hid hA.State
        clear hA hLS HH
        go_upto_region 16 with (go_at_call 9; (with_reducible refine HState.out.mono ?_); rintro e w5 ⟨al, cl, rfl, hE5, hcl, hal, hb5⟩; have f4 : ∀ W, (Instr.field 32 (.agg #[.int .i64 n.acc, .int .i64 n.cur, .int .i64 n.beg.1, .int .i64 n.beg.2, .string (bs n.img), .slice al L.length cl]) 4).run Try.prog W = .ok (.slice al L.length cl) W := fun W => field_log _ _ _ _ _ al L.length cl W)
        have HA5 := Lib.hid (HA.out.grew hb5)
        have HE5 := Lib.hid hE5
        have HAl := Lib.hid (show ∀ b, (Value.slice al L.length cl).ownBlock = some b → b ≠ g from fun b hb e => by have h1 := hal b hb; have h2 := BlkAt.lt HA.out.at_; omega)
        clear hE5 hb5 HState f4 HA hal
        go_wp2
        go_loopg [13] L.length (fun gk v13 wr => ∃ j : Nat, v13 = .int .i64 (j : Int) ∧ j + gk = L.length ∧ Hid (Below w5.heap.size w5 wr))
        case atStart => exact ⟨0, rfl, by omega, Lib.hid (Below.refl _ _)⟩
        case round =>
          obtain ⟨j, rfl, hjg, HBr⟩ := hrel
          by_cases hj : j < L.length
          · have hjs : j < S.length := by rw [← HLi.out]; exact hj
            have hJ : (j : Int) < (L.length : Int) := by omega
            have hJs : (j : Int) < (S.length : Int) := by omega
            obtain ⟨bl, ol, rfl, c0, c1, c2⟩ := ents_get (EntsAt.grew HE5.out HBr.out) j hj
            obtain ⟨ba, oa, rfl, cs⟩ := strs_get (StrsAt.grew HS.out (HA5.out.below.trans (HBr.out.mono HA5.out.below.size))) j hjs
            have hbs : S[j] = L[j].b := by
              have h1 := HLS.out
              have h2 : (L.map Ent.b)[j]? = (S.take S.length)[j]? := by rw [h1]
              rw [List.take_length, List.getElem?_map, List.getElem?_eq_getElem hj, List.getElem?_eq_getElem hjs] at h2
              simpa using h2.symm
            unfold str at cs
            rw [hbs] at cs
            have HBS := Lib.hid hbs
            clear hbs
            cases j with
            | zero =>
              go_wp2_with (fail)
              have hex := Grew.all wr
              refine wp_region_grew (by kernel_rfl) (by kernel_rfl) ?_
              repeat (first | go_big_quiet_skip | (go_big_quiet_want; first | (refine quiet_load_cell _ _ rfl ⟨bl, ol + 0 * 3 + 2, none⟩ rfl _ _ Try.underlying9 rfl (fun W hW => Grew.cell hW c2) ?_; simp only [Act.put, List.setIfInBounds_toArray, List.set_cons_succ, List.set_cons_zero]; go_big_quiet_on) | (refine quiet_load_cell _ _ rfl ⟨ba, oa + 0, none⟩ rfl _ _ Try.underlying9 rfl (fun W hW => Grew.cell hW cs) ?_; simp only [Act.put, List.setIfInBounds_toArray, List.set_cons_succ, List.set_cons_zero]; go_big_quiet_on) | (go_big_quiet_op; first | go_big_quiet_on | (apply Exists.intro; refine ⟨fun W hW => ?_, ?_⟩; (first | exact rfl); go_big_quiet_on))))
              refine wpQuiet_nil ?_
              intro w6 hw6
              clear hex
              go_wp2
              go_roundg (gk - 1)
              case rel => exact ⟨1, by go_num, by omega, Lib.hid (HBr.out.trans (Below.mono (show Below wr.heap.size wr w6 from hw6) HBr.out.size))⟩
              case measure => omega
            | succ k =>
              have hk : k < L.length := by omega
              obtain ⟨bl', ol', ebl, d0, d1, -⟩ := ents_get (EntsAt.grew HE5.out HBr.out) k hk
              simp only [Option.some.injEq, Addr.mk.injEq, and_true] at ebl
              obtain ⟨rfl, rfl⟩ := ebl
              have hK : (k : Int) < (L.length : Int) := by omega
              have hb := HA5.out.al.bnd L[k] (List.getElem_mem hk)
              have ht := HA5.out.al.top L[k] (List.getElem_mem hk)
              have hll := HLi.out
              have e1 : ((k + 1 : Nat) : Int) - 1 = (k : Int) := by omega
              have e2 : IntKind.i64.wrap (((k + 1 : Nat) : Int) - 1) = (k : Int) := by rw [e1]; exact IntWalk.i64_in _ (by omega)
              have e4 : (k : Int) + 1 - 1 = (k : Int) := by omega
              have e5 : IntKind.i64.wrap ((k : Int) + 1 - 1) = (k : Int) := by rw [e4]; exact IntWalk.i64_in _ (by omega)
              have e6 : IntKind.i64.wrap (k : Int) = (k : Int) := IntWalk.i64_in _ (by omega)
              have e7 : IntKind.i64.wrap (L[k].c + 1) = L[k].c + 1 := IntWalk.i64_in _ (by omega)
              have e8 : IntKind.i64.wrap (L[k].e + 1) = L[k].e + 1 := IntWalk.i64_in _ (by omega)
              have e9 : decide ((0 : Int) < (k : Int) + 1) = true := decide_eq_true (by omega)
              have e10 : decide ((0 : Int) < ((k + 1 : Nat) : Int)) = true := decide_eq_true (by omega)
              have e11 : (0 : Int) ≤ (k : Int) := by omega
              have hst := HA5.out.al.steps k hj
              have q1 := run_neq_z (L[k + 1].e, L[k + 1].c) (L[k].e, L[k].c + 1)
              have q2 := run_neq_z (L[k + 1].e, L[k + 1].c) (L[k].e + 1, 1)
              simp only at q1 q2
              clear hll hb ht
              by_cases hfst : (L[k + 1].e, L[k + 1].c) = (L[k].e, L[k].c + 1)
              · rw [decide_eq_true hfst] at q1
                clear hfst hst q2
                go_wp2_with (fail)
                have hex := Grew.all wr
                refine wp_region_grew (by kernel_rfl) (by kernel_rfl) ?_
                repeat (first | go_big_quiet_skip | (go_big_quiet_want; first | (refine quiet_load_cell _ _ rfl ⟨bl, ol + (k + 1) * 3 + 2, none⟩ rfl _ _ Try.underlying9 rfl (fun W hW => Grew.cell hW c2) ?_; simp only [Act.put, List.setIfInBounds_toArray, List.set_cons_succ, List.set_cons_zero]; go_big_quiet_on) | (refine quiet_load_cell _ _ rfl ⟨ba, oa + (k + 1), none⟩ rfl _ _ Try.underlying9 rfl (fun W hW => Grew.cell hW cs) ?_; simp only [Act.put, List.setIfInBounds_toArray, List.set_cons_succ, List.set_cons_zero]; go_big_quiet_on) | (refine quiet_load_mid 29 _ rfl bl (ol + (k + 1) * 3) rfl [.int .i64 L[k + 1].e, .int .i64 L[k + 1].c] _ (fun W hW => range2 (Grew.cell hW c0) (Grew.cell hW c1)) Try.underlying29 rfl (by kernel_rfl) ?_; simp only [Act.put, List.setIfInBounds_toArray, List.set_cons_succ, List.set_cons_zero]; go_big_quiet_on) | (refine quiet_load_cell _ _ rfl ⟨bl, ol + k * 3, none⟩ rfl _ _ Try.underlying3 rfl (fun W hW => Grew.cell hW d0) ?_; simp only [Act.put, List.setIfInBounds_toArray, List.set_cons_succ, List.set_cons_zero]; go_big_quiet_on) | (refine quiet_load_cell _ _ rfl ⟨bl, ol + k * 3 + 1, none⟩ rfl _ _ Try.underlying3 rfl (fun W hW => Grew.cell hW d1) ?_; simp only [Act.put, List.setIfInBounds_toArray, List.set_cons_succ, List.set_cons_zero]; go_big_quiet_on) | (go_big_quiet_op; first | go_big_quiet_on | (apply Exists.intro; refine ⟨fun W hW => ?_, ?_⟩; (first | exact rfl); go_big_quiet_on))))
                refine wpQuiet_nil ?_
                intro w6 hw6
                clear hex
                go_wp2
                go_roundg (gk - 1)
                case rel => exact ⟨k + 1 + 1, by go_num, by omega, Lib.hid (HBr.out.trans (Below.mono (show Below wr.heap.size wr w6 from hw6) HBr.out.size))⟩
                case measure => omega
              · have hsnd : (L[k + 1].e, L[k + 1].c) = (L[k].e + 1, 1) := by
                  rcases hst with h | h
                  · exact absurd h hfst
                  · exact h
                rw [decide_eq_false hfst] at q1
                rw [decide_eq_true hsnd] at q2
                clear hfst hst hsnd
                go_wp2_with (fail)
                have hex := Grew.all wr
                refine wp_region_grew (by kernel_rfl) (by kernel_rfl) ?_
                repeat (first | go_big_quiet_skip | (go_big_quiet_want; first | (refine quiet_load_cell _ _ rfl ⟨bl, ol + (k + 1) * 3 + 2, none⟩ rfl _ _ Try.underlying9 rfl (fun W hW => Grew.cell hW c2) ?_; simp only [Act.put, List.setIfInBounds_toArray, List.set_cons_succ, List.set_cons_zero]; go_big_quiet_on) | (refine quiet_load_cell _ _ rfl ⟨ba, oa + (k + 1), none⟩ rfl _ _ Try.underlying9 rfl (fun W hW => Grew.cell hW cs) ?_; simp only [Act.put, List.setIfInBounds_toArray, List.set_cons_succ, List.set_cons_zero]; go_big_quiet_on) | (refine quiet_load_mid 29 _ rfl bl (ol + (k + 1) * 3) rfl [.int .i64 L[k + 1].e, .int .i64 L[k + 1].c] _ (fun W hW => range2 (Grew.cell hW c0) (Grew.cell hW c1)) Try.underlying29 rfl (by kernel_rfl) ?_; simp only [Act.put, List.setIfInBounds_toArray, List.set_cons_succ, List.set_cons_zero]; go_big_quiet_on) | (refine quiet_load_cell _ _ rfl ⟨bl, ol + k * 3, none⟩ rfl _ _ Try.underlying3 rfl (fun W hW => Grew.cell hW d0) ?_; simp only [Act.put, List.setIfInBounds_toArray, List.set_cons_succ, List.set_cons_zero]; go_big_quiet_on) | (refine quiet_load_cell _ _ rfl ⟨bl, ol + k * 3 + 1, none⟩ rfl _ _ Try.underlying3 rfl (fun W hW => Grew.cell hW d1) ?_; simp only [Act.put, List.setIfInBounds_toArray, List.set_cons_succ, List.set_cons_zero]; go_big_quiet_on) | (go_big_quiet_op; first | go_big_quiet_on | (apply Exists.intro; refine ⟨fun W hW => ?_, ?_⟩; (first | exact rfl); go_big_quiet_on))))
                refine wpQuiet_nil ?_
                intro w6 hw6
                clear hex
                go_wp2
                go_roundg (gk - 1)
                case rel => exact ⟨k + 1 + 1, by go_num, by omega, Lib.hid (HBr.out.trans (Below.mono (show Below wr.heap.size wr w6 from hw6) HBr.out.size))⟩
                case measure => omega
          · obtain rfl : j = L.length := by omega
            have q1 : ((L.length : Int) != (S.length : Int)) = false := by rw [HLi.out]; simp
            have q2 : ((L.length : Int) == (S.length : Int)) = true := by rw [HLi.out]; simp
            have HA6 := Lib.hid (HA5.out.grew HBr.out)
            by_cases hneg : x < 0
            · as_aux_lemma =>
              have n1 : decide (x < 0) = true := decide_eq_true hneg
              have HB6 := Lib.hid HA6.out.below
              clear HA6 HA5 hneg
              go_wp2_with (go_at_call 5; (with_reducible refine (HAw.out _).mono ?_); rintro e w7 ⟨rfl, hb7⟩)
              go_ret
              exact ⟨rfl, HB6.out.trans (hb7.mono HB6.out.size)⟩
            · have n1 : decide (x < 0) = false := decide_eq_false hneg
              by_cases hbig : (L.length : Int) ≤ x
              · as_aux_lemma =>
                have n2 : decide ((L.length : Int) ≤ x) = true := decide_eq_true hbig
                have HB6 := Lib.hid HA6.out.below
                clear HA6 HA5 hneg hbig
                go_wp2_with (go_at_call 5; (with_reducible refine (HAw.out _).mono ?_); rintro e w7 ⟨rfl, hb7⟩)
                go_ret
                exact ⟨rfl, HB6.out.trans (hb7.mono HB6.out.size)⟩
              · have n2 : decide ((L.length : Int) ≤ x) = false := decide_eq_false hbig
                obtain ⟨i, rfl⟩ : ∃ i : Nat, x = (i : Int) := ⟨x.toNat, by omega⟩
                have hil : i < L.length := by omega
                have hIl : (i : Int) < (L.length : Int) := by omega
                have hcl5 := hcl
                obtain ⟨bl, ol, rfl, c0, c1, -⟩ := ents_get (EntsAt.grew HE5.out HBr.out) i hil
                have HCo : Calls Try.prog 10 #[.pointer (some ⟨g, 0, none⟩), .agg #[.int .i64 L[i].e, .int .i64 L[i].c], .string ⟨#[105, 109, 97, 103, 101]⟩] wr fun e w' => e = .returned (.int .i64 0) ∧ ∃ n', NodeAt g n' w' ∧ n'.fit ∧ LogAt n' (L.drop (i + 1)) w' ∧ n'.beg = L[i].z ∧ n'.img = [105, 109, 97, 103, 101] ∧ Below w.heap.size w w' ∧ wr.grownBy w' (some g) := HA6.out.Compact i hil [105, 109, 97, 103, 101]
                have HCo := Lib.hid HCo
                go_upto_region 25 with (go_at_call 10; (with_reducible refine HCo.out.mono ?_); rintro e w7 ⟨rfl, n7, hN7, hf7, hL7, hbeg7, himg7, hB7, hG7⟩)
                have hblg : bl ≠ g := HAl.out bl rfl
                have hE7 : EntsAt w7 (.slice (some ⟨bl, ol, none⟩) L.length cl) L := EntsAt.kept (EntsAt.grew HE5.out HBr.out) hG7 (fun b hb e => by simp only [Value.ownBlock, Option.some.injEq] at hb e; omega)
                have HSt7 : Calls Try.prog 9 #[.pointer (some ⟨g, 0, none⟩)] w7 fun e w' => ∃ a c, e = .returned (.agg #[.int .i64 n7.acc, .int .i64 n7.cur, .int .i64 L[i].e, .int .i64 L[i].c, .string ⟨#[105, 109, 97, 103, 101]⟩, .slice a (L.length - (i + 1)) c]) ∧ EntsAt w' (.slice a (L.length - (i + 1)) c) (L.drop (i + 1)) ∧ Below w7.heap.size w7 w' := by
                  refine (state_any g n7 hf7 (L.drop (i + 1)) w7 hN7 hL7).mono ?_
                  rintro e w' ⟨v, he, ⟨a, c, hv, hE, _, _⟩, hb⟩
                  rw [List.length_drop] at hv
                  refine ⟨a, c, ?_, by rw [← hv]; exact hE, hb⟩
                  rw [he, hv]
                  unfold stateV
                  rw [hbeg7, himg7]
                  rfl
                have HSt7 := Lib.hid HSt7
                have HE7 := Lib.hid (And.intro hE7 hB7)
                clear hN7 hf7 hL7 hbeg7 himg7 hB7 hG7 hE7 HCo HA6 HA5 c0 c1
                go_upto_region 26 with (go_at_call 9; (with_reducible refine HSt7.out.mono ?_); rintro e w8 ⟨a8, c8, rfl, hE8, hb8⟩)
                have hS9 := BlkAt.alloc_new w8 [.int .i64 n7.acc, .int .i64 n7.cur, .int .i64 L[i].e, .int .i64 L[i].c, .string ⟨#[105, 109, 97, 103, 101]⟩, .slice a8 (L.length - (i + 1)) c8] StaT
                have hb9 : Below w7.heap.size w7 (w8.alloc (.cells #[.int .i64 n7.acc, .int .i64 n7.cur, .int .i64 L[i].e, .int .i64 L[i].c, .string ⟨#[105, 109, 97, 103, 101]⟩, .slice a8 (L.length - (i + 1)) c8] StaT)) := hb8.alloc hb8.size _
                have hE9 := EntsAt.grew hE8 (alloc_below w8 (.cells #[.int .i64 n7.acc, .int .i64 n7.cur, .int .i64 L[i].e, .int .i64 L[i].c, .string ⟨#[105, 109, 97, 103, 101]⟩, .slice a8 (L.length - (i + 1)) c8] StaT))
                generalize w8.alloc (.cells #[.int .i64 n7.acc, .int .i64 n7.cur, .int .i64 L[i].e, .int .i64 L[i].c, .string ⟨#[105, 109, 97, 103, 101]⟩, .slice a8 (L.length - (i + 1)) c8] StaT) = w9 at *
                generalize w8.heap.size = b9 at *
                have s2 := hS9.cell (i := 2) (v := .int .i64 L[i].e) rfl
                have s3 := hS9.cell (i := 3) (v := .int .i64 L[i].c) rfl
                have s4 := hS9.cell (i := 4) (v := .string ⟨#[105, 109, 97, 103, 101]⟩) rfl
                have s5 := hS9.cell (i := 5) (v := .slice a8 (L.length - (i + 1)) c8) rfl
                obtain ⟨bl', ol', ebl, c0, c1, -⟩ := ents_get (EntsAt.grew HE7.out.1 hb9) i hil
                simp only [Option.some.injEq, Addr.mk.injEq, and_true] at ebl
                obtain ⟨rfl, rfl⟩ := ebl
                have hsl : ∀ W, (Instr.sliceAt 30 (.slice (some ⟨bl, ol, none⟩) L.length cl) (some (.int .i64 ((i : Int) + 1))) none none).run Try.prog W = .ok (.slice (slA (some ⟨bl, ol, none⟩) (i + 1) cl) (L.length - (i + 1)) (cl - (i + 1))) W := by
                  intro W
                  have h1 : (sizeOf (Try.prog.elem 30)).run Try.prog W = .ok 3 W := by kernel_rfl
                  rw [run_sliceAt_slice W _ _ _ _ _ (by kernel_rfl), show (i : Int) + 1 = ((i + 1 : Nat) : Int) by omega, run_slice_l W 30 (some ⟨bl, ol, none⟩) L.length cl (by kernel_rfl) .i64 ((i + 1 : Nat) : Int) (by omega) (by omega), h1]
                  simp [sliced, slA]
                have hBe : ∀ W, Grew w9 W → Calls Try.prog 11 #[.slice a8 (L.length - (i + 1)) c8, .slice (slA (some ⟨bl, ol, none⟩) (i + 1) cl) (L.length - (i + 1)) (cl - (i + 1))] W fun e w' => e = .returned (.bool true) ∧ Below W.heap.size W w' := by
                  intro W hW
                  have hd := ents_drop (EntsAt.grew (EntsAt.grew HE7.out.1 hb9) hW) (i + 1) (cl - (i + 1)) (by omega) hcl
                  have hl := List.length_drop (i := i + 1) (l := L)
                  have := begins_any (L.drop (i + 1)) (L.drop (i + 1)) a8 (slA (some ⟨bl, ol, none⟩) (i + 1) cl) c8 (cl - (i + 1)) W (by rw [hl]; exact EntsAt.grew hE9 hW) (by rw [hl]; exact hd) (by rw [hl]; have := HLi.out; omega) (by rw [hl]; have := HLi.out; omega)
                  rw [hl, decide_eq_true (List.prefix_refl _)] at this
                  exact this
                have hd0 : ((L.length - (i + 1) : Nat) : Int) = (L.length : Int) - (i : Int) - 1 := by omega
                have hw0 : IntKind.i64.wrap ((i : Int) + 1) = (i : Int) + 1 := IntWalk.i64_in _ (by have := HLi.out; omega)
                have hw1 : IntKind.i64.wrap ((L.length : Int) - (i : Int)) = (L.length : Int) - (i : Int) := IntWalk.i64_in _ (by have := HLi.out; omega)
                have hw2 : IntKind.i64.wrap ((L.length : Int) - (i : Int) - 1) = ((L.length - (i + 1) : Nat) : Int) := by rw [hd0]; exact IntWalk.i64_in _ (by have := HLi.out; omega)
                have HBe := Lib.hid hBe
                have HB9 := Lib.hid (HE7.out.2.trans (hb9.mono HE7.out.2.size))
                clear hd0 hBe hb9 hb8 hE9 hE8 hS9 HE7 HLS
                generalize L.length - (i + 1) = D at *
                have hex := Grew.all w9
                refine wp_region_grew (by kernel_rfl) (by kernel_rfl) ?_
                repeat (first | go_big_quiet_skip | (go_big_quiet_want; first | (refine quiet_load_mid 29 _ rfl b9 2 rfl [.int .i64 L[i].e, .int .i64 L[i].c] _ (fun W hW => range2 (Grew.cell hW s2) (Grew.cell hW s3)) Try.underlying29 rfl (by kernel_rfl) ?_; simp only [Act.put, List.setIfInBounds_toArray, List.set_cons_succ, List.set_cons_zero]; go_big_quiet_on) | (refine quiet_load_mid 29 _ rfl bl (ol + i * 3) rfl [.int .i64 L[i].e, .int .i64 L[i].c] _ (fun W hW => range2 (Grew.cell hW c0) (Grew.cell hW c1)) Try.underlying29 rfl (by kernel_rfl) ?_; simp only [Act.put, List.setIfInBounds_toArray, List.set_cons_succ, List.set_cons_zero]; go_big_quiet_on) | (refine quiet_load_cell _ _ rfl ⟨b9, 4, none⟩ rfl _ _ Try.underlying9 rfl (fun W hW => Grew.cell hW s4) ?_; simp only [Act.put, List.setIfInBounds_toArray, List.set_cons_succ, List.set_cons_zero]; go_big_quiet_on) | (refine quiet_load_cell _ _ rfl ⟨b9, 5, none⟩ rfl _ _ Try.underlying30 rfl (fun W hW => Grew.cell hW s5) ?_; simp only [Act.put, List.setIfInBounds_toArray, List.set_cons_succ, List.set_cons_zero]; go_big_quiet_on) | (go_big_quiet_op; first | go_big_quiet_on | (apply Exists.intro; refine ⟨fun W hW => ?_, ?_⟩; (first | (go_at_call 11; with_reducible exact Calls.grew hW (HBe.out _ hW)) | (go_at_call 5; with_reducible exact Calls.grew hW (HAw.out _))); go_big_quiet_on))))
                refine wpQuiet_nil ?_
                intro wz hwz
                clear hex
                go_wp2
                go_ret
                exact ⟨rfl, HB9.out.trans (Below.mono (show Below w9.heap.size w9 wz from hwz) HB9.out.size)⟩
end Go.Proofs.Ytkidhbflojlmoaa
