/- The law KeepPlays. Conditions: as each theorem says. -/
import Derived.Test.YtbaffabemomgjaaGreatDoorRfJ
import Derived.OpenShut
namespace Go.Proofs.YtbaffabemomgjaaGreatDoor
open Go.RowKit

structure Kop where
  ask : Int
  name : Bys
  body : Bys
  n : Int
def kopCells (o : Kop) : List Value := [.int .i64 o.ask, .string (bs o.name), .string (bs o.body), .int .i64 o.n]
structure Kop.ok (o : Kop) : Prop where
  name : o.name.length ≤ maxLen
  body : o.body.length ≤ maxLen
  n : o.n < 9223372036854775808
theorem tidyL_fit : ∀ (L : List Bys) (d : Dk), d.fit → (tidyL L d).1.fit := by
  intro L
  induction L with
  | nil => intro d h; exact h
  | cons q r ih =>
    intro d h
    rw [tidyL_step]
    split
    · exact thenD_fit (remove_fit h q) (ih _ (remove_fit h q))
    · exact ih d h
theorem tidyL_len : ∀ (L : List Bys) (d : Dk), (tidyL L d).1.m.length ≤ d.m.length := by
  intro L
  induction L with
  | nil => intro d; exact Nat.le_refl _
  | cons q r ih =>
    intro d
    rw [tidyL_step]
    split
    · exact thenD_length (remove_length d q) (Nat.le_trans (ih _) (remove_length d q))
    · exact ih d
theorem tidyD_fit {d : Dk} (h : d.fit) : (tidyD d).1.fit := by unfold tidyD; split; exact h; exact tidyL_fit _ _ h
theorem tidyD_len (d : Dk) : (tidyD d).1.m.length ≤ d.m.length := by unfold tidyD; split; exact Nat.le_refl _; exact tidyL_len _ _
theorem arm_m (d : Dk) (n : Int) : (armD d n).1.m = d.m := by unfold armD; split; rfl; split <;> rfl
theorem crashD_len (d : Dk) (ks : List Int) : (crashD d ks).m.length = d.m.length := crash_length d.m ks
/-- Both disks. -/
structure Two (w : World) (g b base gr : Nat) (dr df : Dk) (W : World) : Prop where
  hd : DkAt g b dr W
  hr : RdAt base gr df W
  bel : Below w.heap.size w W
structure TwoP (w : World) (g b base : Nat) : Prop where
  g1 : w.heap.size ≤ g
  b1 : w.heap.size ≤ b
  g2 : g < base
  b2 : b < base
section
variable {w : World} {g b base gr : Nat} {dr df d' : Dk} {W W' : World} {e : Ending} {r : Int}
theorem Two.grew (h : Two w g b base gr dr df W) (hb : Below W.heap.size W W') : Two w g b base gr dr df W' := ⟨h.hd.grew hb, h.hr.grew hb, h.bel.trans (hb.mono h.bel.size)⟩
theorem Two.realA (h : Two w g b base gr dr df W) (P : TwoP w g b base) (hD : DkAt g b d' W') (hA : Apart (DkF g b) W W') : Two w g b base gr d' df W' :=
  ⟨hD, h.hr.apart hA (fun i hi => by have := P.g2; have := P.b2; rcases hi with e | e <;> omega), h.bel.trans (hA.below h.bel.size (fun i hi => by have := P.g1; have := P.b1; rcases hi with e | e <;> omega))⟩
theorem Two.real (h : Two w g b base gr dr df W) (P : TwoP w g b base) (k : DkDone g b d' r W e W') : e = .returned (.int .i64 r) ∧ Two w g b base gr d' df W' := ⟨k.1, h.realA P k.2.1 k.2.2⟩
theorem Two.refA (h : Two w g b base gr dr df W) (P : TwoP w g b base) (hD : RdAt base gr d' W') (hA : Apart (Up base) W W') : Two w g b base gr dr d' W' :=
  ⟨h.hd.apart hA (by have := P.g2; show ¬ base ≤ g; omega) (by have := P.b2; show ¬ base ≤ b; omega), hD, h.bel.trans (hA.below h.bel.size (fun i hi => by have : base ≤ i := hi; have := P.g1; have := P.g2; omega))⟩
theorem Two.ref (h : Two w g b base gr dr df W) (P : TwoP w g b base) (k : RdDone base gr d' r W e W') : e = .returned (.int .i64 r) ∧ Two w g b base gr dr d' W' := ⟨k.1, h.refA P k.2.1 k.2.2⟩
end
theorem name_cell {b mb mc : Nat} {M : List Bys} {W : World} (hG : Grow StT 1 strCells b (.slice (some ⟨mb, 0, none⟩) M.length mc) M W) (k : Nat) (hk : k < M.length) : W.cell? ⟨mb, k, none⟩ = some (.string (bs M[k])) := by
  have h := hG.cells (fun _ => rfl) rfl k hk
  rw [Nat.mul_one] at h
  exact h 0 _ rfl
set_option maxRecDepth 100000 in
set_option maxHeartbeats 12800000 in
theorem plays_law (limit : Int) (L : List Kop) (a : Option Addr) (cap : Nat) (w : World) (hL : RowsAt 4 kopCells w (.slice a L.length cap) L) (hok : ∀ o ∈ L, o.ok) (hn : L.length ≤ maxLen) :
    Calls Tryz.prog 3 #[.int .i64 limit, .slice a L.length cap] w fun e w' => e = .returned (.bool true) ∧ Below w.heap.size w w' := by
  unfold maxLen at hn
  by_cases hbad : limit < 1 ∨ 1073741824 < limit
  · as_aux_lemma =>
    have HN := Lib.hid (newBad_any limit hbad w)
    have HN2 := Lib.hid (rnewBad_any limit hbad w)
    clear hbad hL hok
    go_enter Tryz.func3, Tryz.ntmps3
    go_wp2_with (first
      | (go_at_call 4; refine HN.out.mono ?_; rintro e w' ⟨rfl, rfl⟩)
      | (go_at_call 5; refine HN2.out.mono ?_; rintro e w' ⟨rfl, rfl⟩)
      | (go_at_call 6; refine (kawake_any _).mono ?_; rintro e w9 ⟨rfl, hb9⟩))
    go_ret
    exact ⟨rfl, hb9⟩
  have HN := Lib.hid (new_any limit (by omega) (by omega) w)
  have HN2 := Lib.hid (fun W => rnew_any limit (by omega) (by omega) W)
  have Hf0 := Lib.hid (newD_fit limit (by omega) (by omega))
  have HL := Lib.hid (fun w2 (h : Below w.heap.size w w2) => hL.grew h)
  have HOk := Lib.hid hok
  clear hbad hL hok
  unfold ptrV at HN HN2
  go_enter Tryz.func3, Tryz.ntmps3
  go_wp2_with (fail)
  refine HN.out.mono ?_
  rintro e w1 ⟨rfl, hD, hB⟩
  have hgl := hD.head.lt
  have hbl := hD.files.lt
  have HB1 := Lib.hid hB
  have HD1 := Lib.hid hD
  clear hD hB HN
  go_wp2_with (fail)
  refine (HN2.out _).mono ?_
  rintro e w2 ⟨rfl, hR, hB⟩
  have HT0 : Hid (Two w (w.heap.size + 1) w.heap.size w1.heap.size w1.heap.size (newD limit) (newD limit) w2) := Lib.hid ⟨HD1.out.grew hB, hR, HB1.out.trans (hB.mono HB1.out.size)⟩
  have HP : Hid (TwoP w (w.heap.size + 1) w.heap.size w1.heap.size) := Lib.hid ⟨by omega, Nat.le_refl _, hgl, hbl⟩
  clear hR hB HN2 HD1 HB1
  generalize w1.heap.size = base at *
  go_wp2_with (fail)
  go_loopw [9] (fun v9 wr => ∃ (i : Nat) (d : Dk), v9 = .int .i64 (i : Int) ∧ i ≤ L.length ∧ i ≤ 60 ∧ d.fit ∧ d.m.length ≤ 3 * i ∧ Two w (w.heap.size + 1) w.heap.size base base d d wr) (fun v9 _ => L.length - (intOf v9).toNat)
  case atStart => exact ⟨0, _, rfl, by omega, by omega, Hf0.out, Nat.le_refl _, HT0.out⟩
  case round =>
    obtain ⟨i, d, rfl, hi, hi60, hf, hdl, hT⟩ := hrel
    have HF := Lib.hid hf
    have HT := Lib.hid hT
    clear hf hT HT0 Hf0
    by_cases h : i < L.length ∧ i < 60
    case neg =>
      have q0 : decide (i < L.length) = false ∨ (decide (i < L.length) = true ∧ decide ((i : Int) < 60) = false) := by
        by_cases h1 : i < L.length
        · exact .inr ⟨decide_eq_true h1, decide_eq_false (by omega)⟩
        · exact .inl (decide_eq_false h1)
      clear h
      rcases q0 with q0 | ⟨q0, q1⟩
      · as_aux_lemma =>
        go_wp2_with (go_at_call 6; refine (kawake_any _).mono ?_; rintro e w9 ⟨rfl, hb9⟩)
        go_ret
        exact ⟨rfl, (HT.out.grew hb9).bel⟩
      · as_aux_lemma =>
        go_wp2_with (go_at_call 6; refine (kawake_any _).mono ?_; rintro e w9 ⟨rfl, hb9⟩)
        go_ret
        exact ⟨rfl, (HT.out.grew hb9).bel⟩
    obtain ⟨h, h60⟩ := h
    have q0 : decide (i < L.length) = true := decide_eq_true h
    have q1 : decide ((i : Int) < 60) = true := decide_eq_true (by omega)
    obtain ⟨bb, off, hab, hrg⟩ := (HL.out wr HT.out.bel).get i h
    have HOo := Lib.hid (HOk.out L[i] (List.getElem_mem h))
    generalize L[i] = o at *
    subst hab
    have c0 : wr.cell? ⟨bb, off + i * 4, none⟩ = some (.int .i64 o.ask) := hrg 0 _ rfl
    have c1 : wr.cell? ⟨bb, off + i * 4 + 1, none⟩ = some (.string (bs o.name)) := hrg 1 _ rfl
    have c2 : wr.cell? ⟨bb, off + i * 4 + 2, none⟩ = some (.string (bs o.body)) := hrg 2 _ rfl
    have c3 : wr.cell? ⟨bb, off + i * 4 + 3, none⟩ = some (.int .i64 o.n) := hrg 3 _ rfl
    have hz1 := bs_size o.name
    have hz2 := bs_size o.body
    have hwg : w.heap.size + 1 < wr.heap.size := HT.out.hd.head.lt
    have hal := alloc_below wr (.cells (kopCells o).toArray 32)
    have HO := Lib.hid (BlkAt.alloc_new wr (kopCells o) 32)
    have HT := Lib.hid (HT.out.grew hal)
    clear hrg hal
    by_cases hx1 : 100 < o.name.length
    · as_aux_lemma =>
      have q2 : decide (100 < (o.name.length : Int)) = true := decide_eq_true (by omega)
      unfold kopCells at HT
      clear hx1
      go_wp2_with (go_at_call 6; refine (kawake_any _).mono ?_; rintro e w9 ⟨rfl, hb9⟩)
      go_ret
      exact ⟨rfl, (HT.out.grew hb9).bel⟩
    have q2 : decide (100 < (o.name.length : Int)) = false := decide_eq_false (by omega)
    by_cases hx2 : 2000 < o.body.length
    · as_aux_lemma =>
      have q3 : decide (2000 < (o.body.length : Int)) = true := decide_eq_true (by omega)
      unfold kopCells at HT
      clear hx1 hx2
      go_wp2_with (go_at_call 6; refine (kawake_any _).mono ?_; rintro e w9 ⟨rfl, hb9⟩)
      go_ret
      exact ⟨rfl, (HT.out.grew hb9).bel⟩
    have q3 : decide (2000 < (o.body.length : Int)) = false := decide_eq_false (by omega)
    clear hx1 hx2
    obtain ⟨ask, nm, bd, n⟩ := o
    simp only at *
    obtain ⟨hkn, hkb, hkk⟩ := HOo.out
    simp only at hkn hkb hkk
    unfold kopCells at HT HO
    simp only at HT HO
    by_cases e0 : ask = 0
    · as_aux_lemma =>
      subst e0
      have K1 := Lib.hid (fun (W : World) (hW : Two w (w.heap.size + 1) w.heap.size base base d d W) => save_any hW.hd HF.out (by omega) nm bd hkn hkb)
      have K2 := Lib.hid (fun (W : World) (hW : Two w (w.heap.size + 1) w.heap.size base base (saveD d nm bd).1 d W) => rsave_any hW.hr HF.out (by omega) nm bd hkn hkb)
      have HF2 := Lib.hid (save_fit HF.out nm bd)
      have hd2 : (saveD d nm bd).1.m.length ≤ 3 * i + 3 := by have := save_length d nm bd; omega
      unfold strV ptrV at K1 K2
      generalize saveD d nm bd = r at *
      obtain ⟨d2, z⟩ := r
      simp only at K1 K2 HF2 hd2
      go_wp2_with (fail)
      refine (K1.out _ HT.out).mono ?_
      rintro e w4 hk
      obtain ⟨rfl, hS⟩ := HT.out.real HP.out hk
      have HO4 : Hid (BlkAt wr.heap.size 32 [.int .i64 0, .string (bs nm), .string (bs bd), .int .i64 n] w4) := Lib.hid (blk_away HO.out hk.2.2 (by intro hh; rcases hh with hh | hh <;> omega))
      have o1 := HO4.out.cell (i := 1) rfl
      have o2 := HO4.out.cell (i := 2) rfl
      have o3 := HO4.out.cell (i := 3) rfl
      have HS4 := Lib.hid hS
      clear hk hS HT K1 HO
      go_wp2_with (fail)
      refine (K2.out _ HS4.out).mono ?_
      rintro e w5 hk
      obtain ⟨rfl, hS⟩ := HS4.out.ref HP.out hk
      have HTT := Lib.hid hS
      clear hk hS HS4 K2 HO4 o1 o2 o3
      have hzz : ((z : Int) == z) = true := beq_self_eq_true _
      have HNm := Lib.hid (names_any HTT.out.hd HF2.out (by omega))
      unfold ptrV at HNm
      go_wp2_with (fail)
      refine HNm.out.mono ?_
      rintro e w6 ⟨v, rfl, hG, hB6⟩
      have HT6 := Lib.hid (HTT.out.grew hB6)
      obtain ⟨ma, mc, hv⟩ := hG.slice
      subst hv
      have HG := Lib.hid hG
      clear hG hB6 HNm HTT
      have HNr := Lib.hid (rnames_any HT6.out.hr (by omega))
      unfold ptrV at HNr
      go_wp2_with (fail)
      refine HNr.out.mono ?_
      rintro e w7 ⟨v, rfl, hG2, hB7⟩
      have HT7 := Lib.hid (HT6.out.grew hB7)
      have HGm := Lib.hid (HG.out.below hB7)
      obtain ⟨na, nc, hv⟩ := hG2.slice
      subst hv
      have HGn := Lib.hid hG2
      have hkeys : ∀ x ∈ namesD d2, x.length ≤ maxLen := by
        intro x hx
        unfold namesD at hx
        split at hx
        · cases hx
        · obtain ⟨pp, hp, rfl⟩ := List.mem_map.1 hx
          exact HT7.out.hd.files.keyLen pp hp
      have HKeys := Lib.hid hkeys
      have hMl : (namesD d2).length ≤ 700000 := by
        unfold namesD
        split
        · exact Nat.zero_le _
        · rw [List.length_map]; omega
      clear hkeys hG2 hB7 HNr HT6 HG
      generalize w6.heap.size = b7 at *
      generalize w5.heap.size = b6 at *
      generalize namesD d2 = M at *
      go_wp2_with (fail)
      go_loopw [17] (fun v17 W => ∃ k : Nat, v17 = .int .i64 (k : Int) ∧ k ≤ M.length ∧ Grow StT 1 strCells b6 (.slice ma M.length mc) M W ∧ Grow StT 1 strCells b7 (.slice na M.length nc) M W ∧ Two w (w.heap.size + 1) w.heap.size base base d2 d2 W) (fun v17 _ => M.length - (intOf v17).toNat)
      case atStart => exact ⟨0, rfl, by omega, HGm.out, HGn.out, HT7.out⟩
      case round =>
        obtain ⟨k, rfl, hk, hGm, hGn, hT⟩ := hrel
        have HGm := Lib.hid hGm
        have HGn := Lib.hid hGn
        have HT := Lib.hid hT
        clear hGm hGn hT HT7
        by_cases hkM : k < M.length
        · have q6 : decide (k < M.length) = true := decide_eq_true hkM
          obtain ⟨mb, mc2, hma, _⟩ := HGm.out.form (by omega)
          have hma2 : ma = some ⟨mb, 0, none⟩ := by simp only [Value.slice.injEq] at hma; exact hma.1
          obtain ⟨nb, nc2, hna, _⟩ := HGn.out.form (by omega)
          have hna2 : na = some ⟨nb, 0, none⟩ := by simp only [Value.slice.injEq] at hna; exact hna.1
          subst hma2 hna2
          have HCm := Lib.hid (fun (W : World) (hG : Grow StT 1 strCells b6 (.slice (some ⟨mb, 0, none⟩) M.length mc) M W) => name_cell hG k hkM)
          have HCn := Lib.hid (fun (W : World) (hG : Grow StT 1 strCells b7 (.slice (some ⟨nb, 0, none⟩) M.length nc) M W) => name_cell hG k hkM)
          have hkl := HKeys.out _ (List.getElem_mem hkM)
          have HRd := Lib.hid (fun (W : World) (hW : Two w (w.heap.size + 1) w.heap.size base base d2 d2 W) => read_any hW.hd M[k] hkl)
          have HRr := Lib.hid (fun (W : World) (hW : Two w (w.heap.size + 1) w.heap.size base base d2 d2 W) => rread_any hW.hr HF2.out (by omega) M[k])
          have m0 := HCm.out _ HGm.out
          have n0 := HCn.out _ HGn.out
          unfold strV ptrV at HRd HRr
          have s1 : ((bs M[k]).toList == (bs M[k]).toList) = true := beq_self_eq_true _
          clear hkl hma hna
          generalize M[k] = qk at *
          generalize readD d2 qk = rd at *
          obtain ⟨rs, rz⟩ := rd
          simp only at HRd HRr
          have s2 : ((bs rs).toList == (bs rs).toList) = true := beq_self_eq_true _
          go_wp2_with (fail)
          refine (HRd.out _ HT.out).mono ?_
          rintro e w8 ⟨rfl, hb8⟩
          have HT8 := Lib.hid (HT.out.grew hb8)
          have HGm8 := Lib.hid (HGm.out.below hb8)
          have HGn8 := Lib.hid (HGn.out.below hb8)
          have m0 := HCm.out _ HGm8.out
          have n0 := HCn.out _ HGn8.out
          clear hb8 HGm HGn HT HRd
          go_wp2_with (fail)
          refine (HRr.out _ HT8.out).mono ?_
          rintro e w9 ⟨rfl, rfl⟩
          clear HRr
          go_wp2_with (fail)
          go_quiet (fail)
          have hbq := below_drewN (Below.refl w8.heap.size w8) nq
          have HT9 := Lib.hid (HT8.out.grew hbq)
          have HGm9 := Lib.hid (HGm8.out.below hbq)
          have HGn9 := Lib.hid (HGn8.out.below hbq)
          clear hbq HT8 HGm8 HGn8
          go_wp2
          go_roundw
          case rel => exact ⟨k + 1, by go_num, by omega, HGm9.out, HGn9.out, HT9.out⟩
          case measure => simp [intOf]; omega
        · have q6 : decide (k < M.length) = false := decide_eq_false hkM
          go_wp2
          go_roundw
          case rel => exact ⟨i + 1, d2, by go_num, by omega, by omega, HF2.out, by omega, HT.out⟩
          case measure => simp [intOf]; omega
    by_cases e2 : ask = 2
    · as_aux_lemma =>
      subst e2
      clear e0
      have HKy := Lib.hid (fun (pp : Bys × Fil) (hp : pp ∈ d.m) => HT.out.hd.files.keyLen pp hp)
      have K1 := Lib.hid (fun (W : World) (hW : Two w (w.heap.size + 1) w.heap.size base base d d W) => tidy_any hW.hd HF.out (by omega))
      have K2 := Lib.hid (fun (W : World) (hW : Two w (w.heap.size + 1) w.heap.size base base (tidyD d).1 d W) => rtidy_any hW.hr HF.out (by omega) HKy.out)
      have HF2 := Lib.hid (tidyD_fit HF.out)
      have hd2 : (tidyD d).1.m.length ≤ 3 * i + 3 := by have := tidyD_len d; omega
      unfold strV ptrV at K1 K2
      generalize tidyD d = r at *
      obtain ⟨d2, z⟩ := r
      simp only at K1 K2 HF2 hd2
      go_wp2_with (fail)
      refine (K1.out _ HT.out).mono ?_
      rintro e w4 hk
      obtain ⟨rfl, hS⟩ := HT.out.real HP.out hk
      have HO4 : Hid (BlkAt wr.heap.size 32 [.int .i64 2, .string (bs nm), .string (bs bd), .int .i64 n] w4) := Lib.hid (blk_away HO.out hk.2.2 (by intro hh; rcases hh with hh | hh <;> omega))
      have o1 := HO4.out.cell (i := 1) rfl
      have o2 := HO4.out.cell (i := 2) rfl
      have o3 := HO4.out.cell (i := 3) rfl
      have HS4 := Lib.hid hS
      clear hk hS HT K1 HO
      go_wp2_with (fail)
      refine (K2.out _ HS4.out).mono ?_
      rintro e w5 hk
      obtain ⟨rfl, hS⟩ := HS4.out.ref HP.out hk
      have HTT := Lib.hid hS
      clear hk hS HS4 K2 HO4 o1 o2 o3
      have hzz : ((z : Int) == z) = true := beq_self_eq_true _
      have HNm := Lib.hid (names_any HTT.out.hd HF2.out (by omega))
      unfold ptrV at HNm
      go_wp2_with (fail)
      refine HNm.out.mono ?_
      rintro e w6 ⟨v, rfl, hG, hB6⟩
      have HT6 := Lib.hid (HTT.out.grew hB6)
      obtain ⟨ma, mc, hv⟩ := hG.slice
      subst hv
      have HG := Lib.hid hG
      clear hG hB6 HNm HTT
      have HNr := Lib.hid (rnames_any HT6.out.hr (by omega))
      unfold ptrV at HNr
      go_wp2_with (fail)
      refine HNr.out.mono ?_
      rintro e w7 ⟨v, rfl, hG2, hB7⟩
      have HT7 := Lib.hid (HT6.out.grew hB7)
      have HGm := Lib.hid (HG.out.below hB7)
      obtain ⟨na, nc, hv⟩ := hG2.slice
      subst hv
      have HGn := Lib.hid hG2
      have hkeys : ∀ x ∈ namesD d2, x.length ≤ maxLen := by
        intro x hx
        unfold namesD at hx
        split at hx
        · cases hx
        · obtain ⟨pp, hp, rfl⟩ := List.mem_map.1 hx
          exact HT7.out.hd.files.keyLen pp hp
      have HKeys := Lib.hid hkeys
      have hMl : (namesD d2).length ≤ 700000 := by
        unfold namesD
        split
        · exact Nat.zero_le _
        · rw [List.length_map]; omega
      clear hkeys hG2 hB7 HNr HT6 HG
      generalize w6.heap.size = b7 at *
      generalize w5.heap.size = b6 at *
      generalize namesD d2 = M at *
      go_wp2_with (fail)
      go_loopw [17] (fun v17 W => ∃ k : Nat, v17 = .int .i64 (k : Int) ∧ k ≤ M.length ∧ Grow StT 1 strCells b6 (.slice ma M.length mc) M W ∧ Grow StT 1 strCells b7 (.slice na M.length nc) M W ∧ Two w (w.heap.size + 1) w.heap.size base base d2 d2 W) (fun v17 _ => M.length - (intOf v17).toNat)
      case atStart => exact ⟨0, rfl, by omega, HGm.out, HGn.out, HT7.out⟩
      case round =>
        obtain ⟨k, rfl, hk, hGm, hGn, hT⟩ := hrel
        have HGm := Lib.hid hGm
        have HGn := Lib.hid hGn
        have HT := Lib.hid hT
        clear hGm hGn hT HT7
        by_cases hkM : k < M.length
        · have q6 : decide (k < M.length) = true := decide_eq_true hkM
          obtain ⟨mb, mc2, hma, _⟩ := HGm.out.form (by omega)
          have hma2 : ma = some ⟨mb, 0, none⟩ := by simp only [Value.slice.injEq] at hma; exact hma.1
          obtain ⟨nb, nc2, hna, _⟩ := HGn.out.form (by omega)
          have hna2 : na = some ⟨nb, 0, none⟩ := by simp only [Value.slice.injEq] at hna; exact hna.1
          subst hma2 hna2
          have HCm := Lib.hid (fun (W : World) (hG : Grow StT 1 strCells b6 (.slice (some ⟨mb, 0, none⟩) M.length mc) M W) => name_cell hG k hkM)
          have HCn := Lib.hid (fun (W : World) (hG : Grow StT 1 strCells b7 (.slice (some ⟨nb, 0, none⟩) M.length nc) M W) => name_cell hG k hkM)
          have hkl := HKeys.out _ (List.getElem_mem hkM)
          have HRd := Lib.hid (fun (W : World) (hW : Two w (w.heap.size + 1) w.heap.size base base d2 d2 W) => read_any hW.hd M[k] hkl)
          have HRr := Lib.hid (fun (W : World) (hW : Two w (w.heap.size + 1) w.heap.size base base d2 d2 W) => rread_any hW.hr HF2.out (by omega) M[k])
          have m0 := HCm.out _ HGm.out
          have n0 := HCn.out _ HGn.out
          unfold strV ptrV at HRd HRr
          have s1 : ((bs M[k]).toList == (bs M[k]).toList) = true := beq_self_eq_true _
          clear hkl hma hna
          generalize M[k] = qk at *
          generalize readD d2 qk = rd at *
          obtain ⟨rs, rz⟩ := rd
          simp only at HRd HRr
          have s2 : ((bs rs).toList == (bs rs).toList) = true := beq_self_eq_true _
          go_wp2_with (fail)
          refine (HRd.out _ HT.out).mono ?_
          rintro e w8 ⟨rfl, hb8⟩
          have HT8 := Lib.hid (HT.out.grew hb8)
          have HGm8 := Lib.hid (HGm.out.below hb8)
          have HGn8 := Lib.hid (HGn.out.below hb8)
          have m0 := HCm.out _ HGm8.out
          have n0 := HCn.out _ HGn8.out
          clear hb8 HGm HGn HT HRd
          go_wp2_with (fail)
          refine (HRr.out _ HT8.out).mono ?_
          rintro e w9 ⟨rfl, rfl⟩
          clear HRr
          go_wp2_with (fail)
          go_quiet (fail)
          have hbq := below_drewN (Below.refl w8.heap.size w8) nq
          have HT9 := Lib.hid (HT8.out.grew hbq)
          have HGm9 := Lib.hid (HGm8.out.below hbq)
          have HGn9 := Lib.hid (HGn8.out.below hbq)
          clear hbq HT8 HGm8 HGn8
          go_wp2
          go_roundw
          case rel => exact ⟨k + 1, by go_num, by omega, HGm9.out, HGn9.out, HT9.out⟩
          case measure => simp [intOf]; omega
        · have q6 : decide (k < M.length) = false := decide_eq_false hkM
          go_wp2
          go_roundw
          case rel => exact ⟨i + 1, d2, by go_num, by omega, by omega, HF2.out, by omega, HT.out⟩
          case measure => simp [intOf]; omega
    by_cases e5 : ask = 5
    · as_aux_lemma =>
      subst e5
      clear e0
      clear e2
      have K1 := Lib.hid (fun (W : World) (hW : Two w (w.heap.size + 1) w.heap.size base base d d W) => append_any hW.hd HF.out (by omega) nm bd hkn hkb)
      have K2 := Lib.hid (fun (W : World) (hW : Two w (w.heap.size + 1) w.heap.size base base (appendD d nm bd).1 d W) => rappend_any hW.hr HF.out (by omega) nm bd hkb)
      have HF2 := Lib.hid (append_fit HF.out nm bd)
      have hd2 : (appendD d nm bd).1.m.length ≤ 3 * i + 3 := by have := append_length d nm bd; omega
      unfold strV ptrV at K1 K2
      generalize appendD d nm bd = r at *
      obtain ⟨d2, z⟩ := r
      simp only at K1 K2 HF2 hd2
      go_wp2_with (fail)
      refine (K1.out _ HT.out).mono ?_
      rintro e w4 hk
      obtain ⟨rfl, hS⟩ := HT.out.real HP.out hk
      have HO4 : Hid (BlkAt wr.heap.size 32 [.int .i64 5, .string (bs nm), .string (bs bd), .int .i64 n] w4) := Lib.hid (blk_away HO.out hk.2.2 (by intro hh; rcases hh with hh | hh <;> omega))
      have o1 := HO4.out.cell (i := 1) rfl
      have o2 := HO4.out.cell (i := 2) rfl
      have o3 := HO4.out.cell (i := 3) rfl
      have HS4 := Lib.hid hS
      clear hk hS HT K1 HO
      go_wp2_with (fail)
      refine (K2.out _ HS4.out).mono ?_
      rintro e w5 hk
      obtain ⟨rfl, hS⟩ := HS4.out.ref HP.out hk
      have HTT := Lib.hid hS
      clear hk hS HS4 K2 HO4 o1 o2 o3
      have hzz : ((z : Int) == z) = true := beq_self_eq_true _
      have HNm := Lib.hid (names_any HTT.out.hd HF2.out (by omega))
      unfold ptrV at HNm
      go_wp2_with (fail)
      refine HNm.out.mono ?_
      rintro e w6 ⟨v, rfl, hG, hB6⟩
      have HT6 := Lib.hid (HTT.out.grew hB6)
      obtain ⟨ma, mc, hv⟩ := hG.slice
      subst hv
      have HG := Lib.hid hG
      clear hG hB6 HNm HTT
      have HNr := Lib.hid (rnames_any HT6.out.hr (by omega))
      unfold ptrV at HNr
      go_wp2_with (fail)
      refine HNr.out.mono ?_
      rintro e w7 ⟨v, rfl, hG2, hB7⟩
      have HT7 := Lib.hid (HT6.out.grew hB7)
      have HGm := Lib.hid (HG.out.below hB7)
      obtain ⟨na, nc, hv⟩ := hG2.slice
      subst hv
      have HGn := Lib.hid hG2
      have hkeys : ∀ x ∈ namesD d2, x.length ≤ maxLen := by
        intro x hx
        unfold namesD at hx
        split at hx
        · cases hx
        · obtain ⟨pp, hp, rfl⟩ := List.mem_map.1 hx
          exact HT7.out.hd.files.keyLen pp hp
      have HKeys := Lib.hid hkeys
      have hMl : (namesD d2).length ≤ 700000 := by
        unfold namesD
        split
        · exact Nat.zero_le _
        · rw [List.length_map]; omega
      clear hkeys hG2 hB7 HNr HT6 HG
      generalize w6.heap.size = b7 at *
      generalize w5.heap.size = b6 at *
      generalize namesD d2 = M at *
      go_wp2_with (fail)
      go_loopw [17] (fun v17 W => ∃ k : Nat, v17 = .int .i64 (k : Int) ∧ k ≤ M.length ∧ Grow StT 1 strCells b6 (.slice ma M.length mc) M W ∧ Grow StT 1 strCells b7 (.slice na M.length nc) M W ∧ Two w (w.heap.size + 1) w.heap.size base base d2 d2 W) (fun v17 _ => M.length - (intOf v17).toNat)
      case atStart => exact ⟨0, rfl, by omega, HGm.out, HGn.out, HT7.out⟩
      case round =>
        obtain ⟨k, rfl, hk, hGm, hGn, hT⟩ := hrel
        have HGm := Lib.hid hGm
        have HGn := Lib.hid hGn
        have HT := Lib.hid hT
        clear hGm hGn hT HT7
        by_cases hkM : k < M.length
        · have q6 : decide (k < M.length) = true := decide_eq_true hkM
          obtain ⟨mb, mc2, hma, _⟩ := HGm.out.form (by omega)
          have hma2 : ma = some ⟨mb, 0, none⟩ := by simp only [Value.slice.injEq] at hma; exact hma.1
          obtain ⟨nb, nc2, hna, _⟩ := HGn.out.form (by omega)
          have hna2 : na = some ⟨nb, 0, none⟩ := by simp only [Value.slice.injEq] at hna; exact hna.1
          subst hma2 hna2
          have HCm := Lib.hid (fun (W : World) (hG : Grow StT 1 strCells b6 (.slice (some ⟨mb, 0, none⟩) M.length mc) M W) => name_cell hG k hkM)
          have HCn := Lib.hid (fun (W : World) (hG : Grow StT 1 strCells b7 (.slice (some ⟨nb, 0, none⟩) M.length nc) M W) => name_cell hG k hkM)
          have hkl := HKeys.out _ (List.getElem_mem hkM)
          have HRd := Lib.hid (fun (W : World) (hW : Two w (w.heap.size + 1) w.heap.size base base d2 d2 W) => read_any hW.hd M[k] hkl)
          have HRr := Lib.hid (fun (W : World) (hW : Two w (w.heap.size + 1) w.heap.size base base d2 d2 W) => rread_any hW.hr HF2.out (by omega) M[k])
          have m0 := HCm.out _ HGm.out
          have n0 := HCn.out _ HGn.out
          unfold strV ptrV at HRd HRr
          have s1 : ((bs M[k]).toList == (bs M[k]).toList) = true := beq_self_eq_true _
          clear hkl hma hna
          generalize M[k] = qk at *
          generalize readD d2 qk = rd at *
          obtain ⟨rs, rz⟩ := rd
          simp only at HRd HRr
          have s2 : ((bs rs).toList == (bs rs).toList) = true := beq_self_eq_true _
          go_wp2_with (fail)
          refine (HRd.out _ HT.out).mono ?_
          rintro e w8 ⟨rfl, hb8⟩
          have HT8 := Lib.hid (HT.out.grew hb8)
          have HGm8 := Lib.hid (HGm.out.below hb8)
          have HGn8 := Lib.hid (HGn.out.below hb8)
          have m0 := HCm.out _ HGm8.out
          have n0 := HCn.out _ HGn8.out
          clear hb8 HGm HGn HT HRd
          go_wp2_with (fail)
          refine (HRr.out _ HT8.out).mono ?_
          rintro e w9 ⟨rfl, rfl⟩
          clear HRr
          go_wp2_with (fail)
          go_quiet (fail)
          have hbq := below_drewN (Below.refl w8.heap.size w8) nq
          have HT9 := Lib.hid (HT8.out.grew hbq)
          have HGm9 := Lib.hid (HGm8.out.below hbq)
          have HGn9 := Lib.hid (HGn8.out.below hbq)
          clear hbq HT8 HGm8 HGn8
          go_wp2
          go_roundw
          case rel => exact ⟨k + 1, by go_num, by omega, HGm9.out, HGn9.out, HT9.out⟩
          case measure => simp [intOf]; omega
        · have q6 : decide (k < M.length) = false := decide_eq_false hkM
          go_wp2
          go_roundw
          case rel => exact ⟨i + 1, d2, by go_num, by omega, by omega, HF2.out, by omega, HT.out⟩
          case measure => simp [intOf]; omega
    by_cases e1 : ask = 1
    · as_aux_lemma =>
      subst e1
      clear e0
      clear e2
      clear e5
      have K1 := Lib.hid (fun (W : World) (hW : Two w (w.heap.size + 1) w.heap.size base base d d W) => load_any hW.hd HF.out nm hkn)
      have K2 := Lib.hid (fun (W : World) (hW : Two w (w.heap.size + 1) w.heap.size base base d d W) => rload_any hW.hr HF.out (by omega) nm hkn)
      have HF2 := HF
      have hd2 : d.m.length ≤ 3 * i + 3 := by omega
      unfold LoadSaid strV ptrV at K1 K2
      generalize loadD d nm = r at *
      obtain ⟨X, z⟩ := r
      generalize d = d2 at *
      simp only at K1 K2
      have s0 : ((bs X).toList == (bs X).toList) = true := beq_self_eq_true _
      have o1 := HO.out.cell (i := 1) rfl
      go_wp2_with (fail)
      refine (K1.out _ HT.out).mono ?_
      rintro e w4 ⟨rfl, hb4⟩
      have HO4 : Hid (BlkAt wr.heap.size 32 [.int .i64 1, .string (bs nm), .string (bs bd), .int .i64 n] w4) := Lib.hid (HO.out.grew hb4)
      have o1 := HO4.out.cell (i := 1) rfl
      have HS4 := Lib.hid (HT.out.grew hb4)
      clear hb4 HT K1 HO
      go_wp2_with (fail)
      refine (K2.out _ HS4.out).mono ?_
      rintro e w5 ⟨rfl, hb5⟩
      have HTT := Lib.hid (HS4.out.grew hb5)
      clear hb5 HS4 K2 HO4 o1
      have hzz : ((z : Int) == z) = true := beq_self_eq_true _
      have HNm := Lib.hid (names_any HTT.out.hd HF2.out (by omega))
      unfold ptrV at HNm
      go_wp2_with (fail)
      refine HNm.out.mono ?_
      rintro e w6 ⟨v, rfl, hG, hB6⟩
      have HT6 := Lib.hid (HTT.out.grew hB6)
      obtain ⟨ma, mc, hv⟩ := hG.slice
      subst hv
      have HG := Lib.hid hG
      clear hG hB6 HNm HTT
      have HNr := Lib.hid (rnames_any HT6.out.hr (by omega))
      unfold ptrV at HNr
      go_wp2_with (fail)
      refine HNr.out.mono ?_
      rintro e w7 ⟨v, rfl, hG2, hB7⟩
      have HT7 := Lib.hid (HT6.out.grew hB7)
      have HGm := Lib.hid (HG.out.below hB7)
      obtain ⟨na, nc, hv⟩ := hG2.slice
      subst hv
      have HGn := Lib.hid hG2
      have hkeys : ∀ x ∈ namesD d2, x.length ≤ maxLen := by
        intro x hx
        unfold namesD at hx
        split at hx
        · cases hx
        · obtain ⟨pp, hp, rfl⟩ := List.mem_map.1 hx
          exact HT7.out.hd.files.keyLen pp hp
      have HKeys := Lib.hid hkeys
      have hMl : (namesD d2).length ≤ 700000 := by
        unfold namesD
        split
        · exact Nat.zero_le _
        · rw [List.length_map]; omega
      clear hkeys hG2 hB7 HNr HT6 HG
      generalize w6.heap.size = b7 at *
      generalize w5.heap.size = b6 at *
      generalize namesD d2 = M at *
      go_wp2_with (fail)
      go_loopw [17] (fun v17 W => ∃ k : Nat, v17 = .int .i64 (k : Int) ∧ k ≤ M.length ∧ Grow StT 1 strCells b6 (.slice ma M.length mc) M W ∧ Grow StT 1 strCells b7 (.slice na M.length nc) M W ∧ Two w (w.heap.size + 1) w.heap.size base base d2 d2 W) (fun v17 _ => M.length - (intOf v17).toNat)
      case atStart => exact ⟨0, rfl, by omega, HGm.out, HGn.out, HT7.out⟩
      case round =>
        obtain ⟨k, rfl, hk, hGm, hGn, hT⟩ := hrel
        have HGm := Lib.hid hGm
        have HGn := Lib.hid hGn
        have HT := Lib.hid hT
        clear hGm hGn hT HT7
        by_cases hkM : k < M.length
        · have q6 : decide (k < M.length) = true := decide_eq_true hkM
          obtain ⟨mb, mc2, hma, _⟩ := HGm.out.form (by omega)
          have hma2 : ma = some ⟨mb, 0, none⟩ := by simp only [Value.slice.injEq] at hma; exact hma.1
          obtain ⟨nb, nc2, hna, _⟩ := HGn.out.form (by omega)
          have hna2 : na = some ⟨nb, 0, none⟩ := by simp only [Value.slice.injEq] at hna; exact hna.1
          subst hma2 hna2
          have HCm := Lib.hid (fun (W : World) (hG : Grow StT 1 strCells b6 (.slice (some ⟨mb, 0, none⟩) M.length mc) M W) => name_cell hG k hkM)
          have HCn := Lib.hid (fun (W : World) (hG : Grow StT 1 strCells b7 (.slice (some ⟨nb, 0, none⟩) M.length nc) M W) => name_cell hG k hkM)
          have hkl := HKeys.out _ (List.getElem_mem hkM)
          have HRd := Lib.hid (fun (W : World) (hW : Two w (w.heap.size + 1) w.heap.size base base d2 d2 W) => read_any hW.hd M[k] hkl)
          have HRr := Lib.hid (fun (W : World) (hW : Two w (w.heap.size + 1) w.heap.size base base d2 d2 W) => rread_any hW.hr HF2.out (by omega) M[k])
          have m0 := HCm.out _ HGm.out
          have n0 := HCn.out _ HGn.out
          unfold strV ptrV at HRd HRr
          have s1 : ((bs M[k]).toList == (bs M[k]).toList) = true := beq_self_eq_true _
          clear hkl hma hna
          generalize M[k] = qk at *
          generalize readD d2 qk = rd at *
          obtain ⟨rs, rz⟩ := rd
          simp only at HRd HRr
          have s2 : ((bs rs).toList == (bs rs).toList) = true := beq_self_eq_true _
          go_wp2_with (fail)
          refine (HRd.out _ HT.out).mono ?_
          rintro e w8 ⟨rfl, hb8⟩
          have HT8 := Lib.hid (HT.out.grew hb8)
          have HGm8 := Lib.hid (HGm.out.below hb8)
          have HGn8 := Lib.hid (HGn.out.below hb8)
          have m0 := HCm.out _ HGm8.out
          have n0 := HCn.out _ HGn8.out
          clear hb8 HGm HGn HT HRd
          go_wp2_with (fail)
          refine (HRr.out _ HT8.out).mono ?_
          rintro e w9 ⟨rfl, rfl⟩
          clear HRr
          go_wp2_with (fail)
          go_quiet (fail)
          have hbq := below_drewN (Below.refl w8.heap.size w8) nq
          have HT9 := Lib.hid (HT8.out.grew hbq)
          have HGm9 := Lib.hid (HGm8.out.below hbq)
          have HGn9 := Lib.hid (HGn8.out.below hbq)
          clear hbq HT8 HGm8 HGn8
          go_wp2
          go_roundw
          case rel => exact ⟨k + 1, by go_num, by omega, HGm9.out, HGn9.out, HT9.out⟩
          case measure => simp [intOf]; omega
        · have q6 : decide (k < M.length) = false := decide_eq_false hkM
          go_wp2
          go_roundw
          case rel => exact ⟨i + 1, d2, by go_num, by omega, by omega, HF2.out, by omega, HT.out⟩
          case measure => simp [intOf]; omega
    by_cases e3 : ask = 3
    · as_aux_lemma =>
      subst e3
      clear e0
      clear e2
      clear e5
      clear e1
      have K1 := Lib.hid (fun (W : World) (hW : Two w (w.heap.size + 1) w.heap.size base base d d W) => arm_any hW.hd n)
      have K2 := Lib.hid (fun (W : World) (hW : Two w (w.heap.size + 1) w.heap.size base base (armD d n).1 d W) => rarm_any hW.hr n)
      have HF2 := Lib.hid (arm_fit HF.out n hkk)
      have hd2 : (armD d n).1.m.length ≤ 3 * i + 3 := by rw [arm_m]; omega
      unfold ptrV at K1 K2
      generalize armD d n = r at *
      obtain ⟨d2, z⟩ := r
      simp only at K1 K2 HF2 hd2
      have o3 := HO.out.cell (i := 3) rfl
      go_wp2_with (fail)
      refine (K1.out _ HT.out).mono ?_
      rintro e w4 ⟨rfl, hD4, hg4⟩
      have hA4 : Apart (DkF (w.heap.size + 1) w.heap.size) _ w4 := Apart.of_grown (F := DkF (w.heap.size + 1) w.heap.size) hg4 (fun q hq => .inl (.inl (Option.some.inj hq).symm))
      have HO4 : Hid (BlkAt wr.heap.size 32 [.int .i64 3, .string (bs nm), .string (bs bd), .int .i64 n] w4) := Lib.hid (blk_away HO.out hA4 (by intro hh; rcases hh with hh | hh <;> omega))
      have o3 := HO4.out.cell (i := 3) rfl
      have HS4 := Lib.hid (HT.out.realA HP.out hD4 hA4)
      clear hD4 hg4 hA4 HT K1 HO
      go_wp2_with (fail)
      refine (K2.out _ HS4.out).mono ?_
      rintro e w5 hk
      obtain ⟨rfl, hS⟩ := HS4.out.ref HP.out hk
      have HTT := Lib.hid hS
      clear hk hS HS4 K2 HO4 o3
      have hzz : ((z : Int) == z) = true := beq_self_eq_true _
      have HNm := Lib.hid (names_any HTT.out.hd HF2.out (by omega))
      unfold ptrV at HNm
      go_wp2_with (fail)
      refine HNm.out.mono ?_
      rintro e w6 ⟨v, rfl, hG, hB6⟩
      have HT6 := Lib.hid (HTT.out.grew hB6)
      obtain ⟨ma, mc, hv⟩ := hG.slice
      subst hv
      have HG := Lib.hid hG
      clear hG hB6 HNm HTT
      have HNr := Lib.hid (rnames_any HT6.out.hr (by omega))
      unfold ptrV at HNr
      go_wp2_with (fail)
      refine HNr.out.mono ?_
      rintro e w7 ⟨v, rfl, hG2, hB7⟩
      have HT7 := Lib.hid (HT6.out.grew hB7)
      have HGm := Lib.hid (HG.out.below hB7)
      obtain ⟨na, nc, hv⟩ := hG2.slice
      subst hv
      have HGn := Lib.hid hG2
      have hkeys : ∀ x ∈ namesD d2, x.length ≤ maxLen := by
        intro x hx
        unfold namesD at hx
        split at hx
        · cases hx
        · obtain ⟨pp, hp, rfl⟩ := List.mem_map.1 hx
          exact HT7.out.hd.files.keyLen pp hp
      have HKeys := Lib.hid hkeys
      have hMl : (namesD d2).length ≤ 700000 := by
        unfold namesD
        split
        · exact Nat.zero_le _
        · rw [List.length_map]; omega
      clear hkeys hG2 hB7 HNr HT6 HG
      generalize w6.heap.size = b7 at *
      generalize w5.heap.size = b6 at *
      generalize namesD d2 = M at *
      go_wp2_with (fail)
      go_loopw [17] (fun v17 W => ∃ k : Nat, v17 = .int .i64 (k : Int) ∧ k ≤ M.length ∧ Grow StT 1 strCells b6 (.slice ma M.length mc) M W ∧ Grow StT 1 strCells b7 (.slice na M.length nc) M W ∧ Two w (w.heap.size + 1) w.heap.size base base d2 d2 W) (fun v17 _ => M.length - (intOf v17).toNat)
      case atStart => exact ⟨0, rfl, by omega, HGm.out, HGn.out, HT7.out⟩
      case round =>
        obtain ⟨k, rfl, hk, hGm, hGn, hT⟩ := hrel
        have HGm := Lib.hid hGm
        have HGn := Lib.hid hGn
        have HT := Lib.hid hT
        clear hGm hGn hT HT7
        by_cases hkM : k < M.length
        · have q6 : decide (k < M.length) = true := decide_eq_true hkM
          obtain ⟨mb, mc2, hma, _⟩ := HGm.out.form (by omega)
          have hma2 : ma = some ⟨mb, 0, none⟩ := by simp only [Value.slice.injEq] at hma; exact hma.1
          obtain ⟨nb, nc2, hna, _⟩ := HGn.out.form (by omega)
          have hna2 : na = some ⟨nb, 0, none⟩ := by simp only [Value.slice.injEq] at hna; exact hna.1
          subst hma2 hna2
          have HCm := Lib.hid (fun (W : World) (hG : Grow StT 1 strCells b6 (.slice (some ⟨mb, 0, none⟩) M.length mc) M W) => name_cell hG k hkM)
          have HCn := Lib.hid (fun (W : World) (hG : Grow StT 1 strCells b7 (.slice (some ⟨nb, 0, none⟩) M.length nc) M W) => name_cell hG k hkM)
          have hkl := HKeys.out _ (List.getElem_mem hkM)
          have HRd := Lib.hid (fun (W : World) (hW : Two w (w.heap.size + 1) w.heap.size base base d2 d2 W) => read_any hW.hd M[k] hkl)
          have HRr := Lib.hid (fun (W : World) (hW : Two w (w.heap.size + 1) w.heap.size base base d2 d2 W) => rread_any hW.hr HF2.out (by omega) M[k])
          have m0 := HCm.out _ HGm.out
          have n0 := HCn.out _ HGn.out
          unfold strV ptrV at HRd HRr
          have s1 : ((bs M[k]).toList == (bs M[k]).toList) = true := beq_self_eq_true _
          clear hkl hma hna
          generalize M[k] = qk at *
          generalize readD d2 qk = rd at *
          obtain ⟨rs, rz⟩ := rd
          simp only at HRd HRr
          have s2 : ((bs rs).toList == (bs rs).toList) = true := beq_self_eq_true _
          go_wp2_with (fail)
          refine (HRd.out _ HT.out).mono ?_
          rintro e w8 ⟨rfl, hb8⟩
          have HT8 := Lib.hid (HT.out.grew hb8)
          have HGm8 := Lib.hid (HGm.out.below hb8)
          have HGn8 := Lib.hid (HGn.out.below hb8)
          have m0 := HCm.out _ HGm8.out
          have n0 := HCn.out _ HGn8.out
          clear hb8 HGm HGn HT HRd
          go_wp2_with (fail)
          refine (HRr.out _ HT8.out).mono ?_
          rintro e w9 ⟨rfl, rfl⟩
          clear HRr
          go_wp2_with (fail)
          go_quiet (fail)
          have hbq := below_drewN (Below.refl w8.heap.size w8) nq
          have HT9 := Lib.hid (HT8.out.grew hbq)
          have HGm9 := Lib.hid (HGm8.out.below hbq)
          have HGn9 := Lib.hid (HGn8.out.below hbq)
          clear hbq HT8 HGm8 HGn8
          go_wp2
          go_roundw
          case rel => exact ⟨k + 1, by go_num, by omega, HGm9.out, HGn9.out, HT9.out⟩
          case measure => simp [intOf]; omega
        · have q6 : decide (k < M.length) = false := decide_eq_false hkM
          go_wp2
          go_roundw
          case rel => exact ⟨i + 1, d2, by go_num, by omega, by omega, HF2.out, by omega, HT.out⟩
          case measure => simp [intOf]; omega
    by_cases e4 : ask = 4
    · as_aux_lemma =>
      subst e4
      clear e0
      clear e2
      clear e5
      clear e1
      clear e3
      have o3 := HO.out.cell (i := 3) rfl
      have HF2 := Lib.hid (crash_fit HF.out [n, n])
      have hd2 : (crashD d [n, n]).m.length ≤ 3 * i + 3 := by rw [crashD_len]; omega
      have hal := alloc_below (wr.alloc (.cells #[.int .i64 4, .string (bs nm), .string (bs bd), .int .i64 n] 32)) (.cells #[.int .i64 n, .int .i64 n] 3)
      have K1 := Lib.hid (fun (W : World) (hW : Two w (w.heap.size + 1) w.heap.size base base d d W) (kb : Option Addr) (hr : RowsAt 1 intCells W (.slice kb [n, n].length 2) [n, n]) => crash_any hW.hd HF.out (by omega) [n, n] kb 2 hr (Nat.le_refl 2) (by unfold maxLen; omega))
      have K2 := Lib.hid (fun (W : World) (kb : Nat) (hW : Two w (w.heap.size + 1) w.heap.size base base (crashD d [n, n]) d W) (hk : BlkAt kb 3 [.int .i64 n, .int .i64 n] W) => rcrash_any hW.hr HF.out (by omega) kb n n hk)
      have HRw := Lib.hid (two_keep n n (wr.alloc (.cells #[.int .i64 4, .string (bs nm), .string (bs bd), .int .i64 n] 32)) 3)
      simp only [List.length_cons, List.length_nil, Nat.zero_add, Nat.reduceAdd] at K1 HRw
      simp only [World.size_alloc] at HRw
      have HT3 := Lib.hid (HT.out.grew hal)
      have HO3 := Lib.hid (HO.out.grew hal)
      generalize crashD d [n, n] = d2 at *
      unfold ptrV at K1 K2
      clear hal HT
      go_wp2_with (fail)
      refine (K1.out _ HT3.out _ HRw.out).mono ?_
      rintro e w4 hk
      obtain ⟨rfl, hS⟩ := HT3.out.real HP.out hk
      have HO4 : Hid (BlkAt wr.heap.size 32 [.int .i64 4, .string (bs nm), .string (bs bd), .int .i64 n] w4) := Lib.hid (blk_away HO3.out hk.2.2 (by intro hh; rcases hh with hh | hh <;> omega))
      have o3 := HO4.out.cell (i := 3) rfl
      have hal := alloc_below w4 (.cells #[.int .i64 n, .int .i64 n] 3)
      have HS4 := Lib.hid (hS.grew hal)
      have HK4 := Lib.hid (BlkAt.alloc_new w4 [.int .i64 n, .int .i64 n] 3)
      clear hk hS HT3 K1 HO HO3 HRw hal
      go_wp2_with (fail)
      refine (K2.out _ _ HS4.out HK4.out).mono ?_
      rintro e w5 ⟨rfl, hD5, hA5⟩
      have HTT := Lib.hid (HS4.out.refA HP.out hD5 hA5)
      clear hD5 hA5 HS4 K2 HO4 o3 HK4
      have hzz : ((0 : Int) == 0) = true := beq_self_eq_true _
      have HNm := Lib.hid (names_any HTT.out.hd HF2.out (by omega))
      unfold ptrV at HNm
      go_wp2_with (fail)
      refine HNm.out.mono ?_
      rintro e w6 ⟨v, rfl, hG, hB6⟩
      have HT6 := Lib.hid (HTT.out.grew hB6)
      obtain ⟨ma, mc, hv⟩ := hG.slice
      subst hv
      have HG := Lib.hid hG
      clear hG hB6 HNm HTT
      have HNr := Lib.hid (rnames_any HT6.out.hr (by omega))
      unfold ptrV at HNr
      go_wp2_with (fail)
      refine HNr.out.mono ?_
      rintro e w7 ⟨v, rfl, hG2, hB7⟩
      have HT7 := Lib.hid (HT6.out.grew hB7)
      have HGm := Lib.hid (HG.out.below hB7)
      obtain ⟨na, nc, hv⟩ := hG2.slice
      subst hv
      have HGn := Lib.hid hG2
      have hkeys : ∀ x ∈ namesD d2, x.length ≤ maxLen := by
        intro x hx
        unfold namesD at hx
        split at hx
        · cases hx
        · obtain ⟨pp, hp, rfl⟩ := List.mem_map.1 hx
          exact HT7.out.hd.files.keyLen pp hp
      have HKeys := Lib.hid hkeys
      have hMl : (namesD d2).length ≤ 700000 := by
        unfold namesD
        split
        · exact Nat.zero_le _
        · rw [List.length_map]; omega
      clear hkeys hG2 hB7 HNr HT6 HG
      generalize w6.heap.size = b7 at *
      generalize w5.heap.size = b6 at *
      generalize namesD d2 = M at *
      go_wp2_with (fail)
      go_loopw [17] (fun v17 W => ∃ k : Nat, v17 = .int .i64 (k : Int) ∧ k ≤ M.length ∧ Grow StT 1 strCells b6 (.slice ma M.length mc) M W ∧ Grow StT 1 strCells b7 (.slice na M.length nc) M W ∧ Two w (w.heap.size + 1) w.heap.size base base d2 d2 W) (fun v17 _ => M.length - (intOf v17).toNat)
      case atStart => exact ⟨0, rfl, by omega, HGm.out, HGn.out, HT7.out⟩
      case round =>
        obtain ⟨k, rfl, hk, hGm, hGn, hT⟩ := hrel
        have HGm := Lib.hid hGm
        have HGn := Lib.hid hGn
        have HT := Lib.hid hT
        clear hGm hGn hT HT7
        by_cases hkM : k < M.length
        · have q6 : decide (k < M.length) = true := decide_eq_true hkM
          obtain ⟨mb, mc2, hma, _⟩ := HGm.out.form (by omega)
          have hma2 : ma = some ⟨mb, 0, none⟩ := by simp only [Value.slice.injEq] at hma; exact hma.1
          obtain ⟨nb, nc2, hna, _⟩ := HGn.out.form (by omega)
          have hna2 : na = some ⟨nb, 0, none⟩ := by simp only [Value.slice.injEq] at hna; exact hna.1
          subst hma2 hna2
          have HCm := Lib.hid (fun (W : World) (hG : Grow StT 1 strCells b6 (.slice (some ⟨mb, 0, none⟩) M.length mc) M W) => name_cell hG k hkM)
          have HCn := Lib.hid (fun (W : World) (hG : Grow StT 1 strCells b7 (.slice (some ⟨nb, 0, none⟩) M.length nc) M W) => name_cell hG k hkM)
          have hkl := HKeys.out _ (List.getElem_mem hkM)
          have HRd := Lib.hid (fun (W : World) (hW : Two w (w.heap.size + 1) w.heap.size base base d2 d2 W) => read_any hW.hd M[k] hkl)
          have HRr := Lib.hid (fun (W : World) (hW : Two w (w.heap.size + 1) w.heap.size base base d2 d2 W) => rread_any hW.hr HF2.out (by omega) M[k])
          have m0 := HCm.out _ HGm.out
          have n0 := HCn.out _ HGn.out
          unfold strV ptrV at HRd HRr
          have s1 : ((bs M[k]).toList == (bs M[k]).toList) = true := beq_self_eq_true _
          clear hkl hma hna
          generalize M[k] = qk at *
          generalize readD d2 qk = rd at *
          obtain ⟨rs, rz⟩ := rd
          simp only at HRd HRr
          have s2 : ((bs rs).toList == (bs rs).toList) = true := beq_self_eq_true _
          go_wp2_with (fail)
          refine (HRd.out _ HT.out).mono ?_
          rintro e w8 ⟨rfl, hb8⟩
          have HT8 := Lib.hid (HT.out.grew hb8)
          have HGm8 := Lib.hid (HGm.out.below hb8)
          have HGn8 := Lib.hid (HGn.out.below hb8)
          have m0 := HCm.out _ HGm8.out
          have n0 := HCn.out _ HGn8.out
          clear hb8 HGm HGn HT HRd
          go_wp2_with (fail)
          refine (HRr.out _ HT8.out).mono ?_
          rintro e w9 ⟨rfl, rfl⟩
          clear HRr
          go_wp2_with (fail)
          go_quiet (fail)
          have hbq := below_drewN (Below.refl w8.heap.size w8) nq
          have HT9 := Lib.hid (HT8.out.grew hbq)
          have HGm9 := Lib.hid (HGm8.out.below hbq)
          have HGn9 := Lib.hid (HGn8.out.below hbq)
          clear hbq HT8 HGm8 HGn8
          go_wp2
          go_roundw
          case rel => exact ⟨k + 1, by go_num, by omega, HGm9.out, HGn9.out, HT9.out⟩
          case measure => simp [intOf]; omega
        · have q6 : decide (k < M.length) = false := decide_eq_false hkM
          go_wp2
          go_roundw
          case rel => exact ⟨i + 1, d2, by go_num, by omega, by omega, HF2.out, by omega, HT.out⟩
          case measure => simp [intOf]; omega
    as_aux_lemma =>
      have f0 : (ask == 0) = false := beq_eq_false_iff_ne.2 e0
      have f1 : (ask == 1) = false := beq_eq_false_iff_ne.2 e1
      have f2 : (ask == 2) = false := beq_eq_false_iff_ne.2 e2
      have f3 : (ask == 3) = false := beq_eq_false_iff_ne.2 e3
      have f4 : (ask == 4) = false := beq_eq_false_iff_ne.2 e4
      have f5 : (ask == 5) = false := beq_eq_false_iff_ne.2 e5
      clear e0 e1 e2 e3 e4 e5
      have HF2 := HF
      have hd2 : d.m.length ≤ 3 * i + 3 := by omega
      generalize d = d2 at *
      have HTT := HT
      clear HO HT
      have hzz : ((0 : Int) == 0) = true := beq_self_eq_true _
      have HNm := Lib.hid (names_any HTT.out.hd HF2.out (by omega))
      unfold ptrV at HNm
      go_wp2_with (fail)
      refine HNm.out.mono ?_
      rintro e w6 ⟨v, rfl, hG, hB6⟩
      have HT6 := Lib.hid (HTT.out.grew hB6)
      obtain ⟨ma, mc, hv⟩ := hG.slice
      subst hv
      have HG := Lib.hid hG
      clear hG hB6 HNm HTT
      have HNr := Lib.hid (rnames_any HT6.out.hr (by omega))
      unfold ptrV at HNr
      go_wp2_with (fail)
      refine HNr.out.mono ?_
      rintro e w7 ⟨v, rfl, hG2, hB7⟩
      have HT7 := Lib.hid (HT6.out.grew hB7)
      have HGm := Lib.hid (HG.out.below hB7)
      obtain ⟨na, nc, hv⟩ := hG2.slice
      subst hv
      have HGn := Lib.hid hG2
      have hkeys : ∀ x ∈ namesD d2, x.length ≤ maxLen := by
        intro x hx
        unfold namesD at hx
        split at hx
        · cases hx
        · obtain ⟨pp, hp, rfl⟩ := List.mem_map.1 hx
          exact HT7.out.hd.files.keyLen pp hp
      have HKeys := Lib.hid hkeys
      have hMl : (namesD d2).length ≤ 700000 := by
        unfold namesD
        split
        · exact Nat.zero_le _
        · rw [List.length_map]; omega
      clear hkeys hG2 hB7 HNr HT6 HG
      generalize w6.heap.size = b7 at *
      generalize (wr.alloc (.cells #[.int .i64 ask, .string (bs nm), .string (bs bd), .int .i64 n] 32)).heap.size = b6 at *
      generalize namesD d2 = M at *
      go_wp2_with (fail)
      go_loopw [17] (fun v17 W => ∃ k : Nat, v17 = .int .i64 (k : Int) ∧ k ≤ M.length ∧ Grow StT 1 strCells b6 (.slice ma M.length mc) M W ∧ Grow StT 1 strCells b7 (.slice na M.length nc) M W ∧ Two w (w.heap.size + 1) w.heap.size base base d2 d2 W) (fun v17 _ => M.length - (intOf v17).toNat)
      case atStart => exact ⟨0, rfl, by omega, HGm.out, HGn.out, HT7.out⟩
      case round =>
        obtain ⟨k, rfl, hk, hGm, hGn, hT⟩ := hrel
        have HGm := Lib.hid hGm
        have HGn := Lib.hid hGn
        have HT := Lib.hid hT
        clear hGm hGn hT HT7
        by_cases hkM : k < M.length
        · have q6 : decide (k < M.length) = true := decide_eq_true hkM
          obtain ⟨mb, mc2, hma, _⟩ := HGm.out.form (by omega)
          have hma2 : ma = some ⟨mb, 0, none⟩ := by simp only [Value.slice.injEq] at hma; exact hma.1
          obtain ⟨nb, nc2, hna, _⟩ := HGn.out.form (by omega)
          have hna2 : na = some ⟨nb, 0, none⟩ := by simp only [Value.slice.injEq] at hna; exact hna.1
          subst hma2 hna2
          have HCm := Lib.hid (fun (W : World) (hG : Grow StT 1 strCells b6 (.slice (some ⟨mb, 0, none⟩) M.length mc) M W) => name_cell hG k hkM)
          have HCn := Lib.hid (fun (W : World) (hG : Grow StT 1 strCells b7 (.slice (some ⟨nb, 0, none⟩) M.length nc) M W) => name_cell hG k hkM)
          have hkl := HKeys.out _ (List.getElem_mem hkM)
          have HRd := Lib.hid (fun (W : World) (hW : Two w (w.heap.size + 1) w.heap.size base base d2 d2 W) => read_any hW.hd M[k] hkl)
          have HRr := Lib.hid (fun (W : World) (hW : Two w (w.heap.size + 1) w.heap.size base base d2 d2 W) => rread_any hW.hr HF2.out (by omega) M[k])
          have m0 := HCm.out _ HGm.out
          have n0 := HCn.out _ HGn.out
          unfold strV ptrV at HRd HRr
          have s1 : ((bs M[k]).toList == (bs M[k]).toList) = true := beq_self_eq_true _
          clear hkl hma hna
          generalize M[k] = qk at *
          generalize readD d2 qk = rd at *
          obtain ⟨rs, rz⟩ := rd
          simp only at HRd HRr
          have s2 : ((bs rs).toList == (bs rs).toList) = true := beq_self_eq_true _
          go_wp2_with (fail)
          refine (HRd.out _ HT.out).mono ?_
          rintro e w8 ⟨rfl, hb8⟩
          have HT8 := Lib.hid (HT.out.grew hb8)
          have HGm8 := Lib.hid (HGm.out.below hb8)
          have HGn8 := Lib.hid (HGn.out.below hb8)
          have m0 := HCm.out _ HGm8.out
          have n0 := HCn.out _ HGn8.out
          clear hb8 HGm HGn HT HRd
          go_wp2_with (fail)
          refine (HRr.out _ HT8.out).mono ?_
          rintro e w9 ⟨rfl, rfl⟩
          clear HRr
          go_wp2_with (fail)
          go_quiet (fail)
          have hbq := below_drewN (Below.refl w8.heap.size w8) nq
          have HT9 := Lib.hid (HT8.out.grew hbq)
          have HGm9 := Lib.hid (HGm8.out.below hbq)
          have HGn9 := Lib.hid (HGn8.out.below hbq)
          clear hbq HT8 HGm8 HGn8
          go_wp2
          go_roundw
          case rel => exact ⟨k + 1, by go_num, by omega, HGm9.out, HGn9.out, HT9.out⟩
          case measure => simp [intOf]; omega
        · have q6 : decide (k < M.length) = false := decide_eq_false hkM
          go_wp2
          go_roundw
          case rel => exact ⟨i + 1, d2, by go_num, by omega, by omega, HF2.out, by omega, HT.out⟩
          case measure => simp [intOf]; omega
end Go.Proofs.YtbaffabemomgjaaGreatDoor
