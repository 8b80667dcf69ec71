/- The walks of Get, end, Len, Nodes, Depth. Conditions: as each theorem says. -/
import Derived.Test.YteoibolompiohaaIdxA
namespace Go.Proofs.Yteoibolompiohaa
open Go.RowKit

section
variable {m : Mem} {t : Tr} {w : World}
/-- What is read of a node. -/
theorem TreeAt.read (h : TreeAt m t w) (a : Nat) (ha : a < t.nodes.length) : ∃ pa pc ka kc, w.cell? ⟨m.nb, a * 2, none⟩ = some (.slice pa (t.nd a).ps.length pc) ∧ w.cell? ⟨m.nb, a * 2 + 1, none⟩ = some (.slice ka (t.nd a).ks.length kc) ∧
    (∀ i (hi : i < (t.nd a).ps.length), ∃ b, pa = some ⟨b, 0, none⟩ ∧ w.cell? ⟨b, i * 2, none⟩ = some (.string (bs ((t.nd a).ps[i]).1)) ∧ w.cell? ⟨b, i * 2 + 1, none⟩ = some (.int .i64 ((t.nd a).ps[i]).2)) ∧
    (∀ i (hi : i < (t.nd a).ks.length), ∃ b, ka = some ⟨b, 0, none⟩ ∧ w.cell? ⟨b, i, none⟩ = some (.int .i64 ((t.nd a).ks[i] : Int))) := by
  obtain ⟨pv, kv, hN, c0, c1, hP, hK⟩ := h.node a ha
  obtain ⟨pa, pc, rfl⟩ := hP.slice
  obtain ⟨ka, kc, rfl⟩ := hK.slice
  refine ⟨pa, pc, ka, kc, c0, c1, fun i hi => ?_, fun i hi => ?_⟩
  · obtain ⟨g, c, hv, _⟩ := hP.form (by omega)
    simp only [Value.slice.injEq] at hv
    have hc := hP.cells prCells_len (by rw [hv.1]) i hi
    exact ⟨g, hv.1, hc 0 _ rfl, hc 1 _ rfl⟩
  · obtain ⟨g, c, hv, _⟩ := hK.form (by omega)
    simp only [Value.slice.injEq] at hv
    have hc := hK.cells inCells_len (by rw [hv.1]) i hi
    have h0 := hc 0 _ rfl
    rw [Nat.mul_one, Nat.add_zero] at h0
    exact ⟨g, hv.1, h0⟩
theorem ok_kid {d a : Nat} (h : t.ok (d + 1) a) (i : Nat) (hi : i < (t.nd a).ks.length) : t.ok d (t.nd a).ks[i] ∧ 4 ≤ (t.nd (t.nd a).ks[i]).ps.length := by
  rw [Tr.ok] at h
  exact h.2.2.2 _ (List.getElem_mem hi)
theorem ok_len {d a : Nat} (h : t.ok d a) : (t.nd a).ks.length = 0 ∧ d = 0 ∨ ∃ e, d = e + 1 ∧ (t.nd a).ks.length = (t.nd a).ps.length + 1 := by
  cases d with
  | zero => rw [Tr.ok] at h; exact .inl ⟨by rw [h.2.1]; rfl, rfl⟩
  | succ e => rw [Tr.ok] at h; exact .inr ⟨e, rfl, h.2.1⟩
set_option maxRecDepth 100000 in
set_option maxHeartbeats 1000000 in
theorem get_any (h : TreeAt m t w) (hn : t.nodes.length ≤ 1000000) (d : Nat) (hok : t.ok d t.root) (k : Key) :
    Calls Try.prog 19 #[ptrV m.g, .string (bs k)] w fun e w' => e = .returned (.tuple #[.int .i64 (getO (d + 1) t t.root k).1, .bool (getO (d + 1) t t.root k).2]) ∧ Below w.heap.size w w' := by
  have g2 := h.top.cell (i := 2) rfl
  obtain ⟨R, hR⟩ : ∃ R, R = getO (d + 1) t t.root k := ⟨_, rfl⟩
  have HT := Lib.hid h
  have HR := Lib.hid hR.symm
  have HO := Lib.hid hok
  rw [← hR]
  clear h hR hok
  unfold ptrV
  go_enter Try.func19, Try.ntmps19
  go_wp2
  go_loopg [6] d (fun gk v6 wr => ∃ a : Nat, v6 = .int .i64 (a : Int) ∧ Hid (t.ok gk a ∧ getO (gk + 1) t a k = R) ∧ Below w.heap.size w wr)
  case atStart => exact ⟨t.root, rfl, Lib.hid ⟨HO.out, HR.out⟩, Below.refl _ _⟩
  case round =>
    obtain ⟨a, rfl, HA, hbr⟩ := hrel
    obtain ⟨hoka, hga⟩ := HA.out
    have ha := ok_lt hoka
    have h9 := ok_ps hoka
    have hT := HT.out.grew hbr
    have g0 := hT.top.cell (i := 0) rfl
    have HS := Lib.hid (spot_any hT a ha hn (by omega) k)
    obtain ⟨pa, pc, ka, kc, c0, c1, hp, hk⟩ := hT.read a ha
    have hlen := ok_len hoka
    have hsp := spotF_le (t.nd a).ps k
    have haa : (a : Int) < (t.nodes.length : Int) := by omega
    rw [getO] at hga
    unfold ptrV at HS
    have HBr := Lib.hid hbr
    have HOA := Lib.hid hoka
    clear HA hT g2 hbr hoka
    by_cases hi : hasF (t.nd a).ps k = true
    · as_aux_lemma =>
      rw [if_pos hi] at hga
      obtain ⟨hlt, he⟩ := hasF_lt hi
      obtain ⟨b, rfl, k0, k1⟩ := hp _ hlt
      have hbl : b < wr.heap.size := block_lt_of_cell k1
      clear k0
      have hnum : numF (t.nd a).ps k = ((t.nd a).ps[spotF (t.nd a).ps k]).2 := by unfold numF; rw [List.getElem?_eq_getElem hlt]; simp [he]
      rw [hnum] at hga
      rw [hi] at HS
      have HG := Lib.hid hga
      clear hga hnum he hp hk hlen hi
      generalize spotF (t.nd a).ps k = i at *
      generalize ((t.nd a).ps[i]).2 = q at *
      have HB := Lib.hid (fun o => HBr.out.alloc HBr.out.size o)
      go_wp2_with (go_at_call 32; refine HS.out.mono ?_; rintro e w' ⟨rfl, rfl⟩)
      go_ret2
      exact ⟨by rw [← HG.out]; rfl, HB.out _⟩
    · rw [if_neg hi] at hga
      rw [Bool.not_eq_true] at hi
      rw [hi] at HS
      rcases hlen with ⟨h0, rfl⟩ | ⟨e, rfl, hks⟩
      · as_aux_lemma =>
        rw [if_pos h0] at hga
        rw [h0] at c1
        have HG := Lib.hid hga
        clear hga hp hk h0 hi
        generalize spotF (t.nd a).ps k = i at *
        have HB := Lib.hid (fun o => HBr.out.alloc HBr.out.size o)
        go_wp2_with (go_at_call 32; refine HS.out.mono ?_; rintro e w' ⟨rfl, rfl⟩)
        go_ret2
        exact ⟨by rw [← HG.out]; rfl, HB.out _⟩
      · as_aux_lemma =>
        rw [if_neg (by omega)] at hga
        have hil : spotF (t.nd a).ps k < (t.nd a).ks.length := by omega
        obtain ⟨b, rfl, k0⟩ := hk _ hil
        have hbl : b < wr.heap.size := block_lt_of_cell k0
        have hkid := ok_kid HOA.out _ hil
        have hgd : (t.nd a).ks.getD (spotF (t.nd a).ps k) 0 = (t.nd a).ks[spotF (t.nd a).ps k] := by simp [List.getD, hil]
        rw [hgd] at hga
        have hpos : (((t.nd a).ks.length : Int) == 0) = false := beq_eq_false_iff_ne.2 (by omega)
        have HG := Lib.hid (And.intro hkid.1 hga)
        have hil2 : (spotF (t.nd a).ps k : Int) < ((t.nd a).ks.length : Int) := by omega
        clear hga hp hk hks hi hkid hgd
        generalize spotF (t.nd a).ps k = i at *
        generalize (t.nd a).ks[i] = q at *
        have HB := Lib.hid (fun o => HBr.out.alloc HBr.out.size o)
        go_wp2_with (go_at_call 32; refine HS.out.mono ?_; rintro e w' ⟨rfl, rfl⟩)
        go_roundg e
        case rel => exact ⟨q, rfl, HG, HB.out _⟩
        case measure => omega
def zeroPr : List Value := [.string ⟨#[]⟩, .int .i64 0]
/-- What end comes to. -/
def EndSaid (R : Pr) (w : World) (e : Ending) (w' : World) : Prop := e = .returned (.agg #[.string (bs R.1), .int .i64 R.2]) ∧ Below w.heap.size w w'
set_option maxRecDepth 100000 in
set_option maxHeartbeats 2000000 in
theorem end_any (h : TreeAt m t w) (hn : t.nodes.length ≤ 1000000) (a0 : Nat) (d0 : Nat) (hok : t.ok d0 a0) (h4 : 4 ≤ (t.nd a0).ps.length) (hd : d0 + 1 ≤ 400) (lastB : Bool) :
    Calls Try.prog 46 #[ptrV m.g, .int .i64 (a0 : Int), .bool lastB] w (EndSaid (endT t 400 a0 lastB) w) := by
  obtain ⟨R, hR⟩ : ∃ R, R = endT t 400 a0 lastB := ⟨_, rfl⟩
  have HT := Lib.hid h
  have H0 := Lib.hid (And.intro hok (And.intro h4 hR.symm))
  rw [← hR]
  have hB0 := Lib.hid (alloc_below w (.cells #[.string ⟨#[]⟩, .int .i64 0] PrT))
  have hZ0 := Lib.hid (BlkAt.alloc_new w zeroPr PrT)
  clear h hR hok h4
  unfold ptrV
  cases lastB
  all_goals
    go_enter Try.func46, Try.ntmps46
    go_wp2
    go_loopg [1] 400 (fun gk v1 wr => ∃ a d : Nat, v1 = .int .i64 (a : Int) ∧ Hid (d + 1 ≤ gk ∧ t.ok d a ∧ 4 ≤ (t.nd a).ps.length ∧ endT t gk a _ = R) ∧ Below w.heap.size w wr ∧ BlkAt w.heap.size PrT zeroPr wr)
    case atStart => exact ⟨a0, d0, rfl, Lib.hid ⟨hd, H0.out.1, H0.out.2.1, H0.out.2.2⟩, hB0.out, hZ0.out⟩
    case round =>
      obtain ⟨a, d, rfl, HA, hbr, hz⟩ := hrel
      obtain ⟨hd2, hoka, h44, hga⟩ := HA.out
      obtain ⟨f, rfl⟩ : ∃ f, gk = f + 1 := ⟨gk - 1, by omega⟩
      have ha := ok_lt hoka
      have h9 := ok_ps hoka
      have hT := HT.out.grew hbr
      have g0 := hT.top.cell (i := 0) rfl
      obtain ⟨pa, pc, ka, kc, c0, c1, hp, hk⟩ := hT.read a ha
      have hlen := ok_len hoka
      have haa : (a : Int) < (t.nodes.length : Int) := by omega
      rw [endT] at hga
      have HBr := Lib.hid hbr
      have HZ := Lib.hid hz
      have HOA := Lib.hid hoka
      have hsz := hbr.size
      have hzl : w.heap.size < wr.heap.size := hz.lt
      have q0 := hz.cell (i := 0) rfl
      have q1 := hz.cell (i := 1) rfl
      have r0 := hz.frozen 0
      have r1 := hz.frozen 1
      clear HA hT hbr hoka hz
      rcases hlen with ⟨h0, rfl⟩ | ⟨e, rfl, hks⟩
      · as_aux_lemma =>
        rw [if_pos h0] at hga
        simp only [Bool.false_eq_true, if_false, if_true] at hga
        rw [h0] at c1
        first
          | (have hil : (t.nd a).ps.length - 1 < (t.nd a).ps.length := by omega
             rw [show (t.nd a).ps.getD ((t.nd a).ps.length - 1) pr0 = (t.nd a).ps[(t.nd a).ps.length - 1] by simp [List.getD, hil]] at hga
             obtain ⟨b, rfl, k0, k1⟩ := hp _ hil)
          | (have hil : 0 < (t.nd a).ps.length := by omega
             rw [show (t.nd a).ps.getD 0 pr0 = (t.nd a).ps[0] by simp [List.getD, hil]] at hga
             obtain ⟨b, rfl, k0, k1⟩ := hp 0 hil)
        have hbl : b < wr.heap.size := block_lt_of_cell k1
        rw [hga] at k0 k1
        have hn1 : (1 : Int) ≤ ((t.nd a).ps.length : Int) := by omega
        clear hga hp hk h0
        have HB := Lib.hid (fun (o : Obj) (v1 v2 : Value) => (((HBr.out.setCell (p := ⟨w.heap.size, 0, none⟩) (Nat.le_refl _) v1).setCell (p := ⟨w.heap.size, 1, none⟩) (Nat.le_refl _) v2).alloc (by simpa using HBr.out.size) o))
        have HZ3 := Lib.hid (fun (o : Obj) (v1 v2 : Value) => ((HZ.out.set 0 v1).set 1 v2).grew (alloc_below _ o))
        go_wp2
        exact bodyPost_ret (results_cell (T := PrT) rfl _ _ _ _ _ rfl (run_load_blk (HZ3.out _ _ _) _ Try.underlying37 rfl sizePr)) rfl ⟨rfl, HB.out _ _ _⟩
      · as_aux_lemma =>
        rw [if_neg (by omega)] at hga
        simp only [Bool.false_eq_true, if_false, if_true] at hga
        first
          | (have hil : (t.nd a).ks.length - 1 < (t.nd a).ks.length := by omega
             rw [show (t.nd a).ks.getD ((t.nd a).ks.length - 1) 0 = (t.nd a).ks[(t.nd a).ks.length - 1] by simp [List.getD, hil]] at hga
             obtain ⟨b, rfl, k0⟩ := hk _ hil
             have hkid := ok_kid HOA.out _ hil
             obtain ⟨q, hq⟩ : ∃ q, q = (t.nd a).ks[(t.nd a).ks.length - 1] := ⟨_, rfl⟩
             rw [← hq] at hga k0 hkid
             clear hq)
          | (have hil : 0 < (t.nd a).ks.length := by omega
             rw [show (t.nd a).ks.getD 0 0 = (t.nd a).ks[0] by simp [List.getD, hil]] at hga
             obtain ⟨b, rfl, k0⟩ := hk 0 hil
             have hkid := ok_kid HOA.out _ hil
             obtain ⟨q, hq⟩ : ∃ q, q = (t.nd a).ks[0] := ⟨_, rfl⟩
             rw [← hq] at hga k0 hkid
             clear hq)
        have hbl : b < wr.heap.size := block_lt_of_cell k0
        have HG := Lib.hid (And.intro (show e + 1 ≤ f by omega) (And.intro hkid.1 (And.intro hkid.2 hga)))
        have hpos : (((t.nd a).ks.length : Int) == 0) = false := beq_eq_false_iff_ne.2 (by omega)
        have hn1 : (1 : Int) ≤ ((t.nd a).ks.length : Int) := by omega
        have hn10 : (t.nd a).ks.length ≤ 10 := by omega
        clear hga hp hk hks hkid
        have HB := Lib.hid (fun o => HBr.out.alloc HBr.out.size o)
        have HZ2 := Lib.hid (fun o => HZ.out.grew (alloc_below wr o))
        go_wp2
        go_roundg f
        case rel => exact ⟨q, e, rfl, HG, HB.out _, HZ2.out _⟩
        case measure => omega
set_option maxRecDepth 100000 in
theorem len_any (h : TreeAt m t w) : Calls Try.prog 20 #[ptrV m.g] w fun e w' => e = .returned (.int .i64 (t.many : Int)) ∧ w = w' := by
  have g3 := h.top.cell (i := 3) rfl
  clear h
  unfold ptrV
  go_enter Try.func20, Try.ntmps20
  go_wp2
  go_ret
  exact ⟨rfl, rfl⟩
set_option maxRecDepth 100000 in
theorem nodes_any (h : TreeAt m t w) (hn : t.nodes.length ≤ 1000000) (hf : t.free.length ≤ t.nodes.length) : Calls Try.prog 25 #[ptrV m.g] w fun e w' => e = .returned (.tuple #[.int .i64 ((t.nodes.length - t.free.length : Nat) : Int), .int .i64 (t.nodes.length : Int)]) ∧ Below w.heap.size w w' := by
  have g0 := h.top.cell (i := 0) rfl
  have g1 := h.top.cell (i := 1) rfl
  obtain ⟨fa, fc, hfv⟩ := h.free.slice
  rw [hfv] at g1
  have hsub : (t.nodes.length : Int) - (t.free.length : Int) = ((t.nodes.length - t.free.length : Nat) : Int) := by omega
  have hw : IntKind.i64.wrap ((t.nodes.length : Int) - (t.free.length : Int)) = ((t.nodes.length - t.free.length : Nat) : Int) := by rw [hsub]; exact IntWalk.i64_in _ (by omega)
  clear h hfv hsub
  generalize t.nodes.length - t.free.length = U at *
  unfold ptrV
  go_enter Try.func25, Try.ntmps25
  go_wp2
  go_region
  all_goals
    go_wp2
    go_ret2
    exact ⟨rfl, (Below.refl _ w).drew⟩
set_option maxRecDepth 100000 in
set_option maxHeartbeats 1000000 in
theorem depth_any (h : TreeAt m t w) (hn : t.nodes.length ≤ 1000000) (d : Nat) (hok : t.ok d t.root) (hd : d ≤ 400) : Calls Try.prog 26 #[ptrV m.g] w fun e w' => e = .returned (.int .i64 ((d + 1 : Nat) : Int)) ∧ w = w' := by
  have g0 := h.top.cell (i := 0) rfl
  have g2 := h.top.cell (i := 2) rfl
  have HT := Lib.hid h
  have HO := Lib.hid hok
  clear h hok
  unfold ptrV
  go_enter Try.func26, Try.ntmps26
  go_wp2
  go_loopg [3, 4] d (fun gk v3 v4 wr => ∃ a n : Nat, v4 = .int .i64 (a : Int) ∧ v3 = .int .i64 (n : Int) ∧ n + gk = d + 1 ∧ Hid (t.ok gk a) ∧ wr = w)
  case atStart => exact ⟨t.root, 1, rfl, rfl, by omega, HO, rfl⟩
  case round =>
    obtain ⟨a, n, rfl, rfl, hnd, HA, rfl⟩ := hrel
    have ha := ok_lt HA.out
    have hlen := ok_len HA.out
    obtain ⟨pa, pc, ka, kc, c0, c1, hp, hk⟩ := HT.out.read a ha
    have haa : (a : Int) < (t.nodes.length : Int) := by omega
    rcases hlen with ⟨h0, rfl⟩ | ⟨e, rfl, hks⟩
    · as_aux_lemma =>
      rw [h0] at c1
      have hnn : n = d + 1 := by omega
      have HN := Lib.hid hnn
      clear hnn hnd h0 hp hk
      go_wp2
      go_ret
      exact ⟨by rw [← HN.out]; rfl, rfl⟩
    · as_aux_lemma =>
      have hil : 0 < (t.nd a).ks.length := by omega
      obtain ⟨b, rfl, k0⟩ := hk 0 hil
      have hkid := Lib.hid (ok_kid HA.out 0 hil).1
      have hpos : (0 : Int) < ((t.nd a).ks.length : Int) := by omega
      clear hp hk hks
      generalize (t.nd a).ks[0] = q at *
      go_wp2
      go_roundg e
      case rel => exact ⟨q, n + 1, rfl, by go_num, by omega, hkid, rfl⟩
      case measure => omega
end
end Go.Proofs.Yteoibolompiohaa
