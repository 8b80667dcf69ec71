/- The walks of spot, take, drop. Conditions: as each theorem says. -/
import Derived.Test.YteoibolompiohaaIdxN
import Derived.Deep.LoopGhost
import Derived.WalkMore
namespace Go.Proofs.Yteoibolompiohaa
open Go.RowKit

theorem spotF_end {l : List Pr} {k : Key} (h : l.length ≤ spotF l k) : spotF l k = l.length ∧ hasF l k = false := by
  have e := spotF_le l k
  have e2 : spotF l k = l.length := by omega
  refine ⟨e2, ?_⟩
  unfold hasF
  rw [List.getElem?_eq_none (by omega)]
theorem spotF_here {l : List Pr} {k : Key} {i : Nat} (hi : i < l.length) (hle : i ≤ spotF l k) (hn : kLt (l[i]).1 k = false) : spotF l k = i ∧ hasF l k = decide ((l[i]).1 = k) := by
  have e : spotF l k = i := by
    rcases Nat.lt_or_ge i (spotF l k) with h | h
    · rw [spotF_lt h hi] at hn; cases hn
    · omega
  refine ⟨e, ?_⟩
  unfold hasF
  rw [e, List.getElem?_eq_getElem hi]
theorem spotF_on {l : List Pr} {k : Key} {i : Nat} (hi : i < l.length) (hle : i ≤ spotF l k) (hn : kLt (l[i]).1 k = true) : i + 1 ≤ spotF l k := by
  rcases Nat.lt_or_ge i (spotF l k) with h | h
  · exact h
  · have e : spotF l k = i := by omega
    have := spotF_ge (l := l) (k := k) (by omega)
    simp only [e] at this
    rw [this] at hn; cases hn
section
variable {m : Mem} {t : Tr} {w : World}
set_option maxRecDepth 100000 in
set_option maxHeartbeats 1000000 in
theorem spot_any (h : TreeAt m t w) (a : Nat) (ha : a < t.nodes.length) (hn : t.nodes.length ≤ 1000000) (hl : (t.nd a).ps.length ≤ 1000) (k : Key) :
    Calls Try.prog 32 #[ptrV m.g, .int .i64 (a : Int), .string (bs k)] w fun e w' => e = .returned (.tuple #[.int .i64 (spotF (t.nd a).ps k : Int), .bool (hasF (t.nd a).ps k)]) ∧ w = w' := by
  have g0 := h.top.cell (i := 0) rfl
  obtain ⟨pv, kv, hN, c0, c1, hP, hK⟩ := h.node a ha
  obtain ⟨pa, pc, rfl⟩ := hP.slice
  have hab : (a : Int) < (t.nodes.length : Int) := by omega
  have hrow : ∀ i (hi : i < (t.nd a).ps.length), ∃ b, pa = some ⟨b, 0, none⟩ ∧ w.rangeAt b (i * 2) (prCells (t.nd a).ps[i]) := fun i hi => by
    obtain ⟨g, c, hv, _⟩ := hP.form (by omega)
    simp only [Value.slice.injEq] at hv
    exact ⟨g, hv.1, hP.cells prCells_len (by rw [hv.1]) i hi⟩
  have HR := Lib.hid hrow
  obtain ⟨ps, hps⟩ : ∃ ps, ps = (t.nd a).ps := ⟨_, rfl⟩
  rw [← hps] at HR hl ⊢
  rw [← hps] at c0
  have HN : Hid (0 ≤ spotF ps k) := Lib.hid (Nat.zero_le _)
  clear hrow hP hK hN h hps c1
  unfold ptrV
  go_enter Try.func32, Try.ntmps32
  go_wp2
  go_step3
  go_wp2
  go_step3
  go_wp2
  go_loopg [8] ps.length (fun gk v8 wr => ∃ i : Nat, v8 = .int .i64 (i : Int) ∧ i + gk = ps.length ∧ i ≤ spotF ps k ∧ wr = w)
  case atStart => exact ⟨0, rfl, by omega, HN.out, rfl⟩
  case round =>
    obtain ⟨i, rfl, hi, his, rfl⟩ := hrel
    by_cases hlt : i < ps.length
    · obtain ⟨b, rfl, hc⟩ := HR.out i hlt
      have k0 := hc 0 _ rfl
      rw [Nat.add_zero] at k0
      have hii : ((i : Int) == (ps.length : Int)) = false := beq_eq_false_iff_ne.2 (by omega)
      have hil : (i : Int) < (ps.length : Int) := by omega
      by_cases h1 : kLt (ps[i]).1 k = true
      · as_aux_lemma =>
        have HO := Lib.hid (spotF_on hlt his h1)
        have he : ((bs (ps[i]).1).toList == (bs k).toList) = false := by rw [bs_toList, bs_toList]; exact beq_eq_false_iff_ne.2 (kLt_ne h1)
        have hl1 : Op.bytesLess (bs (ps[i]).1).toList (bs k).toList = true := by rw [bs_toList, bs_toList]; exact h1
        clear hc h1
        generalize (ps[i]).1 = q at *
        go_wp2
        go_roundg (gk - 1)
        case rel => exact ⟨i + 1, by go_num, by omega, HO.out, rfl⟩
        case measure => omega
      · rw [Bool.not_eq_true] at h1
        obtain ⟨e1, e2⟩ := spotF_here hlt his h1
        have HE1 := Lib.hid e1
        by_cases h2 : (ps[i]).1 = k
        · as_aux_lemma =>
          rw [decide_eq_true h2] at e2
          have HE2 := Lib.hid e2
          have he : ((bs (ps[i]).1).toList == (bs k).toList) = true := by rw [h2]; exact beq_self_eq_true _
          have hl1 : Op.bytesLess (bs (ps[i]).1).toList (bs k).toList = false := by rw [bs_toList, bs_toList]; exact h1
          clear hc h1 h2 e1 e2
          generalize (ps[i]).1 = q at *
          go_wp2
          try rw [Exit.noGoto_ret]
          go_ret2
          exact ⟨by rw [HE1.out, HE2.out]; rfl, rfl⟩
        · as_aux_lemma =>
          rw [decide_eq_false h2] at e2
          have HE2 := Lib.hid e2
          have he : ((bs (ps[i]).1).toList == (bs k).toList) = false := by rw [bs_toList, bs_toList]; exact beq_eq_false_iff_ne.2 h2
          have hl1 : Op.bytesLess (bs (ps[i]).1).toList (bs k).toList = false := by rw [bs_toList, bs_toList]; exact h1
          clear hc h1 h2 e1 e2
          generalize (ps[i]).1 = q at *
          go_wp2
          try rw [Exit.noGoto_ret]
          go_ret2
          exact ⟨by rw [HE1.out, HE2.out]; rfl, rfl⟩
    · as_aux_lemma =>
      obtain ⟨e1, e2⟩ := spotF_end (l := ps) (k := k) (by omega)
      have hi2 : i = ps.length := by omega
      subst hi2
      have HE1 := Lib.hid e1
      have HE2 := Lib.hid e2
      clear e1 e2
      go_wp2
      try rw [Exit.noGoto_ret]
      go_ret2
      exact ⟨by rw [HE1.out, HE2.out]; rfl, rfl⟩
theorem ndCells_one (x : Value × Value) (h1 : x.1.oneCell' = true) (h2 : x.2.oneCell' = true) : ∀ u ∈ ndCells x, u.oneCell' = true := by
  intro u hu
  simp only [ndCells, List.mem_cons, List.not_mem_nil, or_false] at hu
  rcases hu with rfl | rfl
  · exact h1
  · exact h2
/-- What take comes to. -/
def TakeSaid (m : Mem) (t : Tr) (w : World) (e : Ending) (w' : World) : Prop := ∃ m', e = .returned (.int .i64 ((takeT t).1 : Int)) ∧ TreeAt m' (takeT t).2 w' ∧ Stp m m' w w'
set_option maxRecDepth 100000 in
set_option maxHeartbeats 1000000 in
theorem take_any (h : TreeAt m t w) (hn : t.nodes.length ≤ 1000000) (hf : t.free.length ≤ 1000000) : Calls Try.prog 33 #[ptrV m.g] w (TakeSaid m t w) := by
  have g0 := h.top.cell (i := 0) rfl
  have g1 := h.top.cell (i := 1) rfl
  have f0 := h.top.frozen 0
  have f1 := h.top.frozen 1
  have hglt := h.g_lt
  rcases List.eq_nil_or_concat t.free with hnil | ⟨l, r, hl0⟩
  · as_aux_lemma =>
    have ht : takeT t = (t.nodes.length, { t with nodes := t.nodes ++ [noNod] }) := by unfold takeT; rw [hnil]; rfl
    obtain ⟨fa, fc, hfv⟩ := h.free.slice
    rw [hnil, List.length_nil] at hfv
    obtain ⟨g, c, w1, hrun1, hG1, hgr, hat, hlt, hsz⟩ := append_run (P := Try.prog) (w := w) 57 Try.underlying57 (.agg #[nilS, nilS]) 48 infoNd rfl (by omega) h.row (by omega) (nilS, nilS) rfl (ndCells_one _ rfl rfl) (by rw [← h.len]; unfold maxLen; omega) (by rw [← h.len]; omega)
    rw [← h.len] at hG1 hrun1
    have hgne : m.g ≠ m.nb := fun e => by
      obtain ⟨c1, e1⟩ := h.row.block rfl
      exact h.g_ne (by decide) e1 e.symm
    have ht1 := h.top.grown hgr (fun e => hgne (by simpa [Value.ownBlock] using e))
    have hst := h.storeN hgr hG1 (by
      rcases hat with h' | h'
      · left; simpa [Value.ownBlock] using h'.symm
      · right; omega)
    rw [hfv] at g1
    have k0 := ht1.cell (i := 0) rfl
    have z0 := ht1.frozen 0
    have HT := Lib.hid ht
    have HS := Lib.hid hst
    have HRun := Lib.hid hrun1
    have hgl : m.g < w1.heap.size := Nat.lt_of_lt_of_le hglt hgr.size
    unfold ndCells at HRun
    clear ht hst hrun1 hG1 hgr hat h hnil hfv ht1
    unfold ptrV
    go_enter Try.func33, Try.ntmps33
    go_wp2_with (at_builtin; refine wpList_append_eq (by rfl) _ _ 57 (by rfl) _ _ _ _ (by rfl) (by rfl) HRun.out ?_)
    go_ret
    exact ⟨_, by rw [HT.out]; first | rfl | (show Ending.returned (.int .i64 _) = .returned (.int .i64 _); congr 2; omega), by rw [HT.out]; exact HS.out.1, HS.out.2⟩
  · as_aux_lemma =>
    have hl : t.free = l ++ [r] := by rw [hl0, List.concat_eq_append]
    have ht : takeT t = (r, { t with free := l }) := by
      unfold takeT
      rw [hl, List.getLast?_concat]
      simp
    obtain ⟨b, c, hfv, _⟩ := h.free.form (by rw [hl]; simp)
    have hln : t.free.length = l.length + 1 := by rw [hl]; simp
    rw [hln] at hfv
    have hG := h.free
    rw [hfv] at hG
    have hc := hG.cells inCells_len (by rw [hln]) l.length (by omega)
    have hel : t.free[l.length]'(by omega) = r := by simp [hl]
    rw [hel] at hc
    have c0 := hc 0 _ rfl
    rw [Nat.mul_one, Nat.add_zero] at c0
    have hsh := hG.short inCells_len l.length (by omega)
    rw [hl, List.take_left' rfl] at hsh
    have hst := h.storeF (v' := .slice (some ⟨b, 0, none⟩) l.length c) (free' := l) (w' := w) ⟨rfl, rfl, rfl, Nat.le_refl _, fun _ _ _ => rfl⟩ hsh (.inl (by rw [hfv]; rfl))
    obtain ⟨-, hnc, -⟩ := grow_cap hG
    rw [hfv] at g1
    have HT := Lib.hid ht
    have HS := Lib.hid hst
    have hll : (l.length : Int) ≤ 1000000 := by omega
    have hlp : (0 : Int) < (l.length : Int) + 1 := by omega
    have hlc : l.length ≤ c := by omega
    have hlc2 : (l.length : Int) ≤ (c : Int) := by omega
    clear ht hst hG hsh h hl hfv hc hln hel hf hn hl0 hnc
    unfold ptrV
    go_enter Try.func33, Try.ntmps33
    go_wp2
    go_ret
    exact ⟨_, by rw [HT.out]; rfl, by rw [HT.out]; exact HS.out.1, HS.out.2⟩
/-- What drop comes to. -/
def DropSaid (m : Mem) (t : Tr) (r : Nat) (w : World) (e : Ending) (w' : World) : Prop := ∃ m', e = .returned (.tuple #[]) ∧ TreeAt m' (dropT t r) w' ∧ Stp m m' w w'
set_option maxRecDepth 100000 in
set_option maxHeartbeats 1000000 in
theorem drop_any (h : TreeAt m t w) (hn : t.nodes.length ≤ 1000000) (hf : t.free.length ≤ 1000000) (r : Nat) (hr : r < t.nodes.length) : Calls Try.prog 37 #[ptrV m.g, .int .i64 (r : Int)] w (DropSaid m t r w) := by
  have g0 := h.top.cell (i := 0) rfl
  have hri : r < m.N.length := by rw [← h.len]; exact hr
  obtain ⟨pv, kv, hN, c0, c1, _, _⟩ := h.node r hr
  have z0 := h.thaw (r * 2)
  have z1 := h.thaw (r * 2 + 1)
  have hnb := h.nb_lt
  have hrr : (r : Int) < (t.nodes.length : Int) := by omega
  obtain ⟨h1, s1⟩ := h.clear hri
  obtain ⟨W, hW⟩ : ∃ W, w.setCells m.nb (r * 2) [nilS, nilS] = W := ⟨_, rfl⟩
  rw [hW] at h1 s1
  have k1 := h1.top.cell (i := 1) rfl
  have y1 := h1.top.frozen 1
  obtain ⟨g, c, w1, hrun1, hG1, hgr, hat, hlt, hsz⟩ := append_run (P := Try.prog) (w := W) 58 Try.underlying58 (.int .i64 0) 8 infoIn rfl (by omega) h1.free (by omega) r rfl (inCells_one r) (by show t.free.length + 1 ≤ _; unfold maxLen; omega) (by show (t.free.length + 1) * 8 ≤ _; omega)
  have h2 := h1.storeF hgr hG1 (by
    rcases hat with h' | h'
    · left; rw [h']; rfl
    · right; intro b hb; simp only [Value.ownBlock, Option.some.injEq] at hb; omega)
  have hfrow : some m.g ≠ m.fv.ownBlock := fun e => by
    obtain ⟨c1, e1⟩ := h1.free.block e.symm
    exact h1.g_ne (by decide) e1 rfl
  have ht2 := h1.top.grown hgr hfrow
  have x1 := ht2.cell (i := 1) rfl
  have x2 := ht2.frozen 1
  have hgl : m.g < w1.heap.size := BlkAt.lt ht2
  have hglt := h1.g_lt
  have HS := Lib.hid (show TreeAt _ (dropT t r) _ from h2.1)
  have HP := Lib.hid (s1.trans h2.2)
  have HRun := Lib.hid hrun1
  have HW : Hid ((w.setCell ⟨m.nb, r * 2, none⟩ nilS).setCell ⟨m.nb, r * 2 + 1, none⟩ nilS = W) := Lib.hid hW
  unfold inCells at HRun
  simp only at k1 y1 x1 x2
  clear hrun1 hG1 hgr hat h2 ht2 hfrow h1 s1 h hN hW
  unfold ptrV
  go_enter Try.func37, Try.ntmps37
  go_upto_region 1 with (fail)
  rw [HW.out]
  clear g0 c0 c1 z0 z1
  go_wp2_with (at_builtin; refine wpList_append_eq (by rfl) _ _ 58 (by rfl) _ _ _ _ (by rfl) (by rfl) HRun.out ?_)
  go_end0
  exact ⟨_, rfl, HS.out, HP.out⟩
end
end Go.Proofs.Yteoibolompiohaa
