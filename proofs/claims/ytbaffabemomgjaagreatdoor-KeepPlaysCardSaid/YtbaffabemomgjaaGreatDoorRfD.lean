/- The reference's disk: the walks of Used, Read, Arm, Names, Remove. Conditions: as each theorem says. -/
import Derived.Test.YtbaffabemomgjaaGreatDoorRfC
namespace Go.Proofs.YtbaffabemomgjaaGreatDoor
open Go.RowKit

theorem total_append (A B : Dir) : total (A ++ B) = total A + total B := by
  unfold total
  rw [List.map_append, List.sum_append]
theorem total_take (M : Dir) (i : Nat) (h : i < M.length) : total (M.take (i + 1)) = total (M.take i) + M[i].2.d.length := by
  rw [List.take_succ_eq_append_getElem h, total_append]
  simp [total]
theorem total_take_le (M : Dir) (i : Nat) : total (M.take i) ≤ total M := by
  have := total_append (M.take i) (M.drop i)
  rw [List.take_append_drop] at this
  omega
theorem infoSt : (Tryz.prog.info? StT).map (fun i => (i.zero, i.size, i.bytes)) = some (some (.string ⟨#[]⟩), 1, 16) := by kernel_rfl
theorem st_one (c : Bys) : ∀ u ∈ strCells c, u.oneCell' = true := by intro u hu; simp [strCells, strV] at hu; subst hu; rfl
section
variable {base g : Nat} {d : Dk} {w : World}
set_option maxRecDepth 100000 in
set_option maxHeartbeats 1000000 in
theorem rused_any (h : RdAt base g d w) (hf : d.fit) (hn : d.m.length < 900000) : Calls Tryz.prog 43 #[ptrV g] w fun e w' => e = .returned (.int .i64 (total d.m : Int)) ∧ w = w' := by
  obtain ⟨a, cap, h⟩ := h
  have c0 := h.blk.cell (i := 0) rfl
  have H := Lib.hid h
  have htm : (total d.m : Int) ≤ 1073741824 := Int.le_trans hf.used hf.hi
  clear h hf
  unfold ptrV
  go_enter Tryz.func43, Tryz.ntmps43
  go_wp2
  go_loop [3, 4] (fun v3 v4 => ∃ i : Nat, v4 = .int .i64 (i : Int) ∧ i ≤ d.m.length ∧ v3 = .int .i64 (total (d.m.take i) : Int)) (fun _ v4 => d.m.length - (intOf v4).toNat)
  case atStart => exact ⟨0, rfl, by omega, by simp [total]⟩
  case round =>
    obtain ⟨i, rfl, hi, rfl⟩ := hrel
    by_cases hlt : i < d.m.length
    · as_aux_lemma =>
      have q0 : decide (i < d.m.length) = true := decide_eq_true hlt
      obtain ⟨gb, rfl, _, r0, r1, r2⟩ := H.out.get i hlt
      have hl := bs_size d.m[i].2.d
      have HT := Lib.hid (total_take d.m i hlt)
      have h1 := total_take_le d.m (i + 1)
      rw [HT.out] at h1
      generalize total (d.m.take i) = t at *
      generalize d.m[i] = x at *
      clear r0 r2
      go_wp2
      go_round
      case rel => exact ⟨i + 1, by go_num, by omega, by rw [HT.out]; go_num⟩
      case measure => simp [intOf]; omega
    · as_aux_lemma =>
      have q0 : decide (i < d.m.length) = false := decide_eq_false hlt
      have HT : Hid (total (d.m.take i) = total d.m) := Lib.hid (by rw [List.take_of_length_le (by omega)])
      generalize total (d.m.take i) = t at *
      go_wp2
      go_ret
      exact ⟨by rw [← HT.out]; rfl, rfl⟩
set_option maxRecDepth 100000 in
set_option maxHeartbeats 1000000 in
theorem rread_any (h : RdAt base g d w) (hf : d.fit) (hn : d.m.length < 900000) (k : Bys) : Calls Tryz.prog 22 #[ptrV g, strV k] w fun e w' => e = .returned (.tuple #[strV (readD d k).1, .int .i64 (readD d k).2]) ∧ w = w' := by
  have HA := Lib.hid (at_any h (by omega) k)
  obtain ⟨a, cap, h⟩ := h
  have c0 := h.blk.cell (i := 0) rfl
  have c3 := h.blk.cell (i := 3) rfl
  have H := Lib.hid h
  have e00 : strV [] = .string ⟨#[]⟩ := rfl
  clear h
  cases hd : d.dead with
  | true =>
    as_aux_lemma =>
    have er : readD d k = ([], 20) := by unfold readD thereD; rw [hd]; rfl
    rw [er, e00]
    rw [hd] at c3
    unfold ptrV strV at *
    clear e00
    go_enter Tryz.func22, Tryz.ntmps22
    go_wp2
    go_ret2
    exact ⟨rfl, rfl⟩
  | false =>
    rw [hd] at c3
    have hsM := hf.sorted
    obtain ⟨R, hR⟩ : ∃ R, R = readD d k := ⟨_, rfl⟩
    rw [← hR]
    have HR := Lib.hid hR
    have hdd := Lib.hid hd
    clear hR hf hd
    unfold ptrV strV at *
    go_enter Tryz.func22, Tryz.ntmps22
    go_wp2_with (fail)
    refine HA.out.mono ?_
    rintro e w1 ⟨r, rfl, hr, rfl⟩
    rcases hr with ⟨i, hi, rfl, hk⟩ | ⟨rfl, hno⟩
    · as_aux_lemma =>
      have HE : Hid (R = (d.m[i].2.d, 0)) := Lib.hid (by
        rw [HR.out]
        refine read_there hdd.out ?_
        rw [← hk]
        exact AtIs.some hsM hi)
      obtain ⟨gb, rfl, _, r0, r1, r2⟩ := H.out.get i hi
      have q1 : decide ((i : Int) < 0) = false := decide_eq_false (by omega)
      clear HR hk r0 r2 HA hsM
      go_wp2
      go_ret2
      rw [HE.out]
      exact ⟨rfl, rfl⟩
    · as_aux_lemma =>
      have HE : Hid (R = ([], 21)) := Lib.hid (by
        rw [HR.out]
        unfold readD
        rw [there_no hdd.out (get_none.2 hno), if_pos (by decide)])
      clear HR hno HA hsM
      go_wp2
      go_ret2
      rw [HE.out]
      exact ⟨rfl, rfl⟩
set_option maxRecDepth 100000 in
theorem rarm_any (h : RdAt base g d w) (n : Int) : Calls Tryz.prog 14 #[ptrV g, .int .i64 n] w (RdDone base g (armD d n).1 (armD d n).2 w) := by
  obtain ⟨a, cap, h⟩ := h
  have c3 := h.blk.cell (i := 3) rfl
  have fg := h.blk.frozen 2
  have hle := h.le
  have H := Lib.hid h
  unfold RdDone ptrV
  cases hd : d.dead with
  | true =>
    as_aux_lemma =>
    have e : armD d n = (d, 20) := by unfold armD; rw [if_pos hd]
    rw [hd] at c3
    rw [e]
    clear h hd e
    go_enter Tryz.func14, Tryz.ntmps14
    go_wp2
    go_ret
    exact ⟨rfl, ⟨a, cap, H.out⟩, up_refl⟩
  | false =>
    rw [hd] at c3
    by_cases hn : n < 0
    · as_aux_lemma =>
      have e : armD d n = (d, 1) := by unfold armD; rw [if_neg (by rw [hd]; decide), if_pos hn]
      have q : decide (n < 0) = true := decide_eq_true hn
      rw [e]
      clear h hd e hn
      go_enter Tryz.func14, Tryz.ntmps14
      go_wp2
      go_ret
      exact ⟨rfl, ⟨a, cap, H.out⟩, up_refl⟩
    · as_aux_lemma =>
      have c2 := h.blk.cell (i := 2) rfl
      have hgl := h.blk.lt
      have e : armD d n = ({ d with armed := n }, 0) := by unfold armD; rw [if_neg (by rw [hd]; decide), if_neg hn]
      have q : decide (n < 0) = false := decide_eq_false hn
      have hg := grown_set w g 2 (.int .i64 n)
      have HD : Hid (RdAt base g { d with armed := n } (w.setCell ⟨g, 2, none⟩ (.int .i64 n))) := Lib.hid ⟨a, cap, h.blk.set 2 (.int .i64 n), h.keep hg, hle⟩
      have HA := Lib.hid (up_grown (base := base) hg (fun q hq => by have := Option.some.inj hq; omega))
      rw [e]
      clear h hd e hn hg
      go_enter Tryz.func14, Tryz.ntmps14
      go_wp2
      go_ret
      exact ⟨rfl, HD.out, HA.out⟩
set_option maxRecDepth 100000 in
set_option maxHeartbeats 1000000 in
theorem rnames_any (h : RdAt base g d w) (hn : d.m.length < 900000) : Calls Tryz.prog 20 #[ptrV g] w (NamesSaid w.heap.size (namesD d) w) := by
  obtain ⟨a, cap, h⟩ := h
  have H := Lib.hid h
  unfold NamesSaid ptrV
  cases hd : d.dead with
  | true =>
    as_aux_lemma =>
    have c0 := h.blk.cell (i := 0) rfl
    have c3 := h.blk.cell (i := 3) rfl
    rw [hd] at c3
    have e : namesD d = [] := by unfold namesD; rw [if_pos hd]
    rw [e]
    clear h hd e
    go_enter Tryz.func20, Tryz.ntmps20
    go_wp2
    go_loop [3, 4] (fun v3 v4 => v3 = .slice none 0 0 ∧ v4 = .int .i64 0) (fun _ _ => 0)
    case atStart => exact ⟨rfl, rfl⟩
    case round =>
      obtain ⟨rfl, rfl⟩ := hrel
      by_cases hl : 0 < d.m.length
      · have q0 : decide (0 < d.m.length) = true := decide_eq_true hl
        have q1 : decide ((0 : Int) < (d.m.length : Int)) = true := decide_eq_true (by omega)
        go_wp2
        go_ret
        exact ⟨_, rfl, Grow.nil _, Below.refl _ _⟩
      · have q0 : decide (0 < d.m.length) = false := decide_eq_false hl
        have q1 : decide ((0 : Int) < (d.m.length : Int)) = false := decide_eq_false (by omega)
        go_wp2
        go_ret
        exact ⟨_, rfl, Grow.nil _, Below.refl _ _⟩
  | false =>
    as_aux_lemma =>
    have e : namesD d = d.m.map (·.1) := by unfold namesD; rw [if_neg (by rw [hd]; decide)]
    rw [e]
    have hdd := Lib.hid hd
    clear h hd e
    go_enter Tryz.func20, Tryz.ntmps20
    go_wp2_with (fail)
    go_loopw [3, 4] (fun v3 v4 W => ∃ (i : Nat) (v : Value), v4 = .int .i64 (i : Int) ∧ v3 = v ∧ i ≤ d.m.length ∧ Grow StT 1 strCells w.heap.size v ((d.m.take i).map (·.1)) W ∧ Below w.heap.size w W) (fun _ v4 _ => d.m.length - (intOf v4).toNat)
    case atStart => exact ⟨0, _, rfl, rfl, by omega, Grow.nil _, Below.refl _ _⟩
    case round =>
      obtain ⟨i, v, rfl, rfl, hi, hG, hB⟩ := hrel
      have HB := Lib.hid hB
      have hsz := hB.size
      have H' := Lib.hid (H.out.grew hB)
      have c0 := H'.out.blk.cell (i := 0) rfl
      have c3 := H'.out.blk.cell (i := 3) rfl
      rw [hdd.out] at c3
      clear hB
      by_cases hlt : i < d.m.length
      · as_aux_lemma =>
        have q0 : decide (i < d.m.length) = true := decide_eq_true hlt
        have q1 : decide ((i : Int) < (d.m.length : Int)) = true := decide_eq_true (by omega)
        obtain ⟨gb, rfl, _, r0, r1, r2⟩ := H'.out.get i hlt
        have HS : Hid ((d.m.take (i + 1)).map (·.1) = (d.m.take i).map (·.1) ++ [d.m[i].1]) := Lib.hid (by rw [List.take_succ_eq_append_getElem hlt, List.map_append]; rfl)
        have hOl : ((d.m.take i).map (·.1)).length = i := by rw [List.length_map, List.length_take]; omega
        generalize (d.m.take i).map (·.1) = O at *
        generalize d.m[i].1 = x at *
        clear H H' r1 r2
        go_wp2_with (at_builtin; refine wpList_append_grow rfl _ _ _ rfl Tryz.underlying45 _ _ infoSt rfl (by decide) rfl hG hsz x _ rfl rfl (st_one x) rfl (by unfold maxLen; omega) (by omega) ?_; intro v' w2 hG2 hg2; obtain ⟨a2, c2, rfl⟩ := hG2.slice; have hGa := hG.below (alloc_below wr (.cells #[.string (bs x)] StT)); have HB2 := Lib.hid (hGa.since hg2 (HB.out.alloc hsz (.cells #[.string (bs x)] StT)) (Nat.le_refl _)); have HG2 := Lib.hid hG2; clear hG2 hg2 hG hGa)
        go_roundw
        case rel => exact ⟨i + 1, _, by go_num, rfl, by omega, by rw [HS.out]; have := HG2.out; rw [List.length_append, hOl] at this; exact this, HB2.out⟩
        case measure => simp [intOf]; omega
      · as_aux_lemma =>
        have q0 : decide (i < d.m.length) = false := decide_eq_false hlt
        have q1 : decide ((i : Int) < (d.m.length : Int)) = false := decide_eq_false (by omega)
        rw [List.take_of_length_le (by omega)] at hG
        have HG := Lib.hid hG
        clear hG H H'
        go_wp2
        go_ret
        exact ⟨_, rfl, HG.out, HB.out⟩
end
end Go.Proofs.YtbaffabemomgjaaGreatDoor
