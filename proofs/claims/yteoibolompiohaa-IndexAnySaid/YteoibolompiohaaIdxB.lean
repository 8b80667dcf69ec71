/- The walk of split. Conditions: as each theorem says. -/
import Derived.Test.YteoibolompiohaaIdxG
import Derived.Deep.RegionHeld3
namespace Go.Proofs.Yteoibolompiohaa
open Go.RowKit

theorem Stp.blk {m m' : Mem} {w w' : World} (s : Stp m m' w w') {g : Nat} {T : TypeId} {cs : List Value} (h : BlkAt g T cs w) (hf : ¬ m.foot g) : BlkAt g T cs w' ∧ ¬ m'.foot g := by
  have hl := h.lt
  refine ⟨?_, fun h1 => ?_⟩
  · unfold BlkAt at *
    rw [s.apart.block g hl hf]; exact h
  · rcases s.foot g h1 with h2 | h2
    · exact hf h2
    · omega
theorem set_far {w : World} {b o b' o' : Nat} {v : Value} (h : b ≠ b' ∨ o ≠ o') : (w.setCell ⟨b, o, none⟩ v).cell? ⟨b', o', none⟩ = w.cell? ⟨b', o', none⟩ :=
  World.cell?_setCell_other w _ _ v (by
    intro e
    simp only [Addr.mk.injEq, and_true] at e
    rcases h with h | h
    · exact h e.1
    · exact h e.2)
theorem frozen_of_block {w w' : World} {b : Nat} (h : w'.heap[b]? = w.heap[b]?) (o : Nat) : w'.frozen? ⟨b, o, none⟩ = w.frozen? ⟨b, o, none⟩ := by simp [World.frozen?, h]
theorem TreeAt.g_nb {m : Mem} {t : Tr} {w : World} (h : TreeAt m t w) : m.nb ≠ m.g := by
  obtain ⟨c1, e1⟩ := h.row.block rfl
  exact h.g_ne (by decide) e1
theorem Stp.size {m m' : Mem} {w w' : World} (s : Stp m m' w w') : w.heap.size ≤ w'.heap.size := s.apart.size
section
variable {m : Mem} {t : Tr} {w : World} {d a : Nat}
/-- A node's pairs, with the value that stands there. -/
theorem TreeAt.pairsOf (h : TreeAt m t w) (x : Nat) (hx : x < t.nodes.length) (hl : 0 < (t.nd x).ps.length) : ∃ b c kv, m.N[x]? = some (.slice (some ⟨b, 0, none⟩) (t.nd x).ps.length c, kv) ∧ w.cell? ⟨m.nb, x * 2, none⟩ = some (.slice (some ⟨b, 0, none⟩) (t.nd x).ps.length c) ∧
    Grow PrT 2 prCells 0 (.slice (some ⟨b, 0, none⟩) (t.nd x).ps.length c) (t.nd x).ps w ∧ b < w.heap.size := by
  obtain ⟨pv, kv, hN, c0, c1, hP, hK⟩ := h.node x hx
  obtain ⟨b, c, hv, _⟩ := hP.form hl
  rw [hv] at hP c0 hN
  exact ⟨b, c, kv, hN, c0, hP, hP.ltb rfl⟩
theorem TreeAt.kidsOf (h : TreeAt m t w) (x : Nat) (hx : x < t.nodes.length) (hl : 0 < (t.nd x).ks.length) : ∃ b c pv, m.N[x]? = some (pv, .slice (some ⟨b, 0, none⟩) (t.nd x).ks.length c) ∧ w.cell? ⟨m.nb, x * 2 + 1, none⟩ = some (.slice (some ⟨b, 0, none⟩) (t.nd x).ks.length c) ∧
    Grow InT 1 inCells 0 (.slice (some ⟨b, 0, none⟩) (t.nd x).ks.length c) (t.nd x).ks w ∧ b < w.heap.size := by
  obtain ⟨pv, kv, hN, c0, c1, hP, hK⟩ := h.node x hx
  obtain ⟨b, c, hv, _⟩ := hK.form hl
  rw [hv] at hK c1 hN
  exact ⟨b, c, pv, hN, c1, hK, hK.ltb rfl⟩
theorem N_of (x : Nat) {pv kv : Value} (hN : m.N[x]? = some (pv, kv)) : ∃ hx : x < m.N.length, m.N[x] = (pv, kv) := by
  have hx := (List.getElem?_eq_some_iff.1 hN).1
  exact ⟨hx, (List.getElem?_eq_some_iff.1 hN).2⟩
/-- The stores of a node's slices, by what stands there. -/
theorem TreeAt.putP {w' : World} (h : TreeAt m t w) (x : Nat) {pv kv v' : Value} {ps' : List Pr} (hN : m.N[x]? = some (pv, kv)) (hg : w.grownBy w' pv.ownBlock) (hG : Grow PrT 2 prCells 0 v' ps' w') (hv : v'.ownBlock = pv.ownBlock ∨ ∀ b, v'.ownBlock = some b → w.heap.size ≤ b) :
    ∃ m', TreeAt m' (t.put x ⟨ps', (t.nd x).ks⟩) (w'.setCell ⟨m.nb, x * 2, none⟩ v') ∧ Stp m m' w (w'.setCell ⟨m.nb, x * 2, none⟩ v') ∧ m'.nb = m.nb ∧ m'.nc = m.nc ∧ m'.fv = m.fv ∧ m'.N[x]? = some (v', kv) ∧ ∀ y, y ≠ x → m'.N[y]? = m.N[y]? := by
  obtain ⟨hx, e⟩ := N_of x hN
  obtain ⟨h1, h2⟩ := h.storeP hx (by rw [e]; exact hg) hG (by rw [e]; exact hv)
  refine ⟨_, h1, h2, rfl, rfl, rfl, ?_, fun y hy => ?_⟩
  · unfold Mem.setP
    rw [getD_N hx, e]
    simp [hx]
  · unfold Mem.setP
    simp only
    rw [List.getElem?_set_ne (Ne.symm hy)]
theorem TreeAt.putK {w' : World} (h : TreeAt m t w) (x : Nat) {pv kv v' : Value} {ks' : List Nat} (hN : m.N[x]? = some (pv, kv)) (hg : w.grownBy w' kv.ownBlock) (hG : Grow InT 1 inCells 0 v' ks' w') (hv : v'.ownBlock = kv.ownBlock ∨ ∀ b, v'.ownBlock = some b → w.heap.size ≤ b) :
    ∃ m', TreeAt m' (t.put x ⟨(t.nd x).ps, ks'⟩) (w'.setCell ⟨m.nb, x * 2 + 1, none⟩ v') ∧ Stp m m' w (w'.setCell ⟨m.nb, x * 2 + 1, none⟩ v') ∧ m'.nb = m.nb ∧ m'.nc = m.nc ∧ m'.fv = m.fv ∧ m'.N[x]? = some (pv, v') ∧ ∀ y, y ≠ x → m'.N[y]? = m.N[y]? := by
  obtain ⟨hx, e⟩ := N_of x hN
  obtain ⟨h1, h2⟩ := h.storeK hx (by rw [e]; exact hg) hG (by rw [e]; exact hv)
  refine ⟨_, h1, h2, rfl, rfl, rfl, ?_, fun y hy => ?_⟩
  · unfold Mem.setK
    rw [getD_N hx, e]
    simp [hx]
  · unfold Mem.setK
    simp only
    rw [List.getElem?_set_ne (Ne.symm hy)]
theorem grown_refl (w : World) (row : Option Nat) : w.grownBy w row := ⟨rfl, rfl, rfl, Nat.le_refl _, fun _ _ _ => rfl⟩
theorem nd2 {r c : Nat} {R C : Nod} (hr : r < t.nodes.length) (hc : c < t.nodes.length) (x : Nat) : ((t.put r R).put c C).nd x = if x = c then C else if x = r then R else t.nd x := by
  by_cases e1 : x = c
  · subst e1; rw [if_pos rfl, nd_put_same (by rw [put_len]; exact hc)]
  · rw [if_neg e1, nd_put_ne e1]
    by_cases e2 : x = r
    · subst e2; rw [if_pos rfl, nd_put_same hr]
    · rw [if_neg e2, nd_put_ne e2]
/-- What a step of the tree comes to. -/
def StepSaid (m : Mem) (t' : Tr) (w : World) (e : Ending) (w' : World) : Prop := ∃ m', e = .returned (.tuple #[]) ∧ TreeAt m' t' w' ∧ Stp m m' w w'
set_option maxRecDepth 100000 in
set_option maxHeartbeats 4000000 in
theorem split_any (h : TreeAt m t w) (hg : t.Good (d + 1) a) {A B : List Nat} {c : Nat} (hk : (t.nd a).ks = A ++ c :: B) (h9 : (t.nd c).ps.length = 9) (h8 : (t.nd a).ps.length ≤ 8) (hn : t.nodes.length ≤ 100000) (hf : t.free.length ≤ 100000) :
    Calls Try.prog 34 #[ptrV m.g, .int .i64 (a : Int), .int .i64 (A.length : Int)] w (StepSaid m (splitT t a A.length) w) := by
  have hT := take_facts t hg.frees
  obtain ⟨hra, hrw, hrf⟩ := took_new hT hg
  obtain ⟨hgc, hac, haf, hx⟩ := kids_apart hg hk
  have hok := hg.ok
  rw [Tr.ok] at hok
  have hca : c ≠ a := fun e => hac (e ▸ ids_self t d c)
  have hcr : c ≠ (takeT t).1 := fun e => hra (by rw [← e, Tr.ids, hk]; simp [ids_self t d c])
  have har : a ≠ (takeT t).1 := fun e => hra (e ▸ ids_self t _ a)
  have hgetD : (t.nd a).ks.getD A.length 0 = c := by rw [hk, getD_at]
  have hclt : c < t.nodes.length := ok_lt hgc.ok
  have halt : a < t.nodes.length := hok.1
  have hil : A.length < (t.nd a).ks.length := by rw [hk]; simp
  have hkc := ok_len hgc.ok
  have HTk := Lib.hid (take_any h (by omega) (by omega))
  have g0 := h.top.cell (i := 0) rfl
  obtain ⟨ab, ac, apv, hNa, a0, hGa, hab⟩ := h.kidsOf a halt (by omega)
  have hai := hGa.cells inCells_len rfl A.length hil
  rw [show (t.nd a).ks[A.length] = c by simp [hk]] at hai
  have k0 := hai 0 _ rfl
  rw [Nat.mul_one, Nat.add_zero] at k0
  have haa : (a : Int) < (t.nodes.length : Int) := by omega
  have hii : (A.length : Int) < ((t.nd a).ks.length : Int) := by omega
  have hks10 : (t.nd a).ks.length ≤ 10 := by have := hok.2.1; have := hok.2.2.1; omega
  clear hai hGa hNa
  unfold ptrV
  unfold ptrV at HTk
  go_enter Try.func34, Try.ntmps34
  go_wp2_with (fail)
  refine HTk.out.mono ?_
  rintro e w1 ⟨m1, rfl, h1, s1⟩
  clear g0 a0 k0 HTk
  obtain ⟨r, hr⟩ : ∃ r, r = (takeT t).1 := ⟨_, rfl⟩
  obtain ⟨t1, ht1⟩ : ∃ t1, t1 = (takeT t).2 := ⟨_, rfl⟩
  rw [← hr, ← ht1] at hT
  rw [← ht1] at h1
  rw [← hr] at hcr har ⊢
  obtain ⟨P, hP⟩ : ∃ P, P = (t.nd c).ps := ⟨_, rfl⟩
  obtain ⟨Q, hQ⟩ : ∃ Q, Q = (t.nd c).ks := ⟨_, rfl⟩
  rw [← hP] at h9
  rw [← hQ] at hkc
  have hc1 : t1.nd c = ⟨P, Q⟩ := by rw [hT.nd, hP, hQ]
  have hclt1 : c < t1.nodes.length := by have := hT.len; omega
  have hrlt1 := hT.rlt
  have hlen1 : t1.nodes.length ≤ 100001 := by
    have := hT.perm.length_eq
    have := hT.len
    simp only [List.length_append, List.length_cons, List.length_range'] at *
    unfold takeT at ht1
    rw [ht1]
    split
    · simp; omega
    · simp; omega
  obtain ⟨cb, cc, ckv, hNc, c0, hGc, hcb⟩ := h1.pairsOf c hclt1 (by rw [hc1]; show 0 < P.length; omega)
  rw [hc1] at hNc c0 hGc
  simp only at hNc c0 hGc
  rw [h9] at hNc c0 hGc
  obtain ⟨mid, hmid⟩ : ∃ x, x = P.getD 4 pr0 := ⟨_, rfl⟩
  have h4P : 4 < P.length := by omega
  have hme : P[4] = mid := by rw [hmid]; simp [List.getD, h4P]
  have hm4 := hGc.cells prCells_len (by rw [h9]) 4 h4P
  rw [hme] at hm4
  have x0 := hm4 0 _ rfl
  have x1 := hm4 1 _ rfl
  simp only [Nat.reduceMul, Nat.reduceAdd] at x0 x1
  have g0 := h1.top.cell (i := 0) rfl
  have hnb1 := h1.nb_lt
  have hgl1 := h1.g_lt
  rw [s1.g] at g0 hgl1
  have hc9 : 9 ≤ cc := (grow_cap hGc).2.1
  have hcc1 : (c : Int) < (t1.nodes.length : Int) := by omega
  have hrr1 : (r : Int) < (t1.nodes.length : Int) := by omega
  have H1 := Lib.hid h1
  have S1 := Lib.hid s1
  have HP := Lib.hid hP
  have HQ := Lib.hid hQ
  have HM := Lib.hid hmid
  have HK := Lib.hid hk
  have H9 := Lib.hid h9
  have HC1 := Lib.hid hc1
  have HT := Lib.hid hT
  have HKC := Lib.hid hkc
  have HTT := Lib.hid (And.intro hr ht1)
  have HNc := Lib.hid hNc
  have HGc := Lib.hid hGc
  have HGD := Lib.hid hgetD
  clear h1 s1 hkc hP hQ hmid hk h9 hc1 hT hr ht1 hNc hGc hgetD hm4 hme hok hgc hac haf hx hra hrw hrf h hii hil hks10 haa
  go_wp2_with (fail)
  have hmb := Lib.hid (BlkAt.alloc_new w1 [.string (bs mid.1), .int .i64 mid.2] PrT)
  have hsz2 : (w1.alloc (.cells #[.string (bs mid.1), .int .i64 mid.2] PrT)).heap.size = w1.heap.size + 1 := by simp
  have HB2 := Lib.hid (alloc_below w1 (.cells #[.string (bs mid.1), .int .i64 mid.2] PrT))
  have g0 := Grew.cell HB2.out g0
  have c0 := Grew.cell HB2.out c0
  clear x0 x1
  generalize w1.alloc (.cells #[.string (bs mid.1), .int .i64 mid.2] PrT) = w2 at *
  have hRO : Hid (∀ W, Below w2.heap.size w2 W → Calls Try.prog 41 #[.slice (some ⟨cb, 10, none⟩) 4 (cc - 5)] W fun e w' => ∃ g, e = .returned (.slice (some ⟨g, 0, none⟩) 4 4) ∧ Grow PrT 2 prCells 0 (.slice (some ⟨g, 0, none⟩) 4 4) (P.drop 5) w' ∧ W.heap.size ≤ g ∧ Below W.heap.size W w') := Lib.hid (fun W hW => by
    have hr := rows_from ((HGc.out.below HB2.out).below hW) prCells_len 5 4 (by rw [H9.out]; omega) (by rw [H9.out]) (cc - 5)
    have hl : (P.drop 5).length = 4 := by rw [List.length_drop, H9.out]
    have := ownPr_any (P.drop 5) (some ⟨cb, 10, none⟩) (cc - 5) (by omega) W (by rw [hl]; exact hr)
    rw [hl] at this
    exact this)
  obtain ⟨rpv, rkv, hNr, r0, r1, hPr, hKr⟩ := H1.out.node r hrlt1
  have r0 := Grew.cell HB2.out r0
  have z0 : w2.frozen? ⟨m1.nb, r * 2, none⟩ = false := (H1.out.grew HB2.out).thaw _
  have hnb2 : m1.nb < w2.heap.size := by omega
  have HNr := Lib.hid hNr
  have HPr := Lib.hid hPr
  clear r1 hNr hPr hKr
  have hc5 : ¬ cc = 5 := by omega
  have hnbg : m1.nb ≠ m.g := by have := H1.out.g_nb; rwa [S1.out.g] at this
  have hrc2 : r * 2 ≠ c * 2 := by omega
  have hB : Below w2.heap.size w2 w2.drew := (Below.refl _ w2).drew
  go_region_held3 (fun w' => w'.cell? ⟨m.g, 0, none⟩ = some (.slice (some ⟨m1.nb, 0, none⟩) t1.nodes.length m1.nc) ∧ w'.cell? ⟨m1.nb, c * 2, none⟩ = some (.slice (some ⟨cb, 0, none⟩) 9 cc)) (first | exact ⟨Grew.cell hB g0, Grew.cell hB c0⟩ | exact ⟨(set_far (.inl hnbg)).trans (Grew.cell hB g0), (set_far (.inr hrc2)).trans (Grew.cell hB c0)⟩ | go_keep) (first | (go_at_call 41; (with_reducible refine (hRO.out _ hB).mono ?_); rintro e w4 ⟨rg, rfl, hG4, hrg, hb4⟩; have hB := hB.trans (hb4.mono hB.size); have q0 := Grew.cell hB r0; have q1 := (Below.frozen hB (p := ⟨m1.nb, r * 2, none⟩) hnb2).trans z0; have hnb4 : m1.nb < w4.heap.size := Nat.lt_of_lt_of_le hnb2 hB.size))
  obtain ⟨m2, T2, U2, hnb2', _, _, hN2r, hN2⟩ := (H1.out.grew HB2.out).putP r HNr.out (grown_below hB _) hG4 (.inr fun b hb => by simp only [Value.ownBlock, Option.some.injEq] at hb; have : w2.heap.size ≤ rg := hrg; omega)
  obtain ⟨hmb5, hmf2⟩ := U2.blk (hmb.out) (fun hh => by have := H1.out.foot_lt hh; omega)
  have hS5 : w2.heap.size ≤ (w4.setCell ⟨m1.nb, r * 2, none⟩ (.slice (some ⟨rg, 0, none⟩) 4 4)).heap.size := U2.size
  generalize w4.setCell ⟨m1.nb, r * 2, none⟩ (.slice (some ⟨rg, 0, none⟩) 4 4) = w5 at *
  obtain ⟨t2, ht2⟩ : ∃ t2, t2 = t1.put r ⟨P.drop 5, (t1.nd r).ks⟩ := ⟨_, rfl⟩
  rw [← ht2] at T2
  have hl2 : t2.nodes.length = t1.nodes.length := by rw [ht2, put_len]
  have hc2 : t2.nd c = ⟨P, Q⟩ := by rw [ht2, nd_put_ne hcr, HC1.out]
  have hU2 := (S1.out.trans (Stp.of_below HB2.out)).trans U2
  have HT2 := Lib.hid T2
  have HS2 := Lib.hid hU2
  have Ht2 := Lib.hid ht2
  have Hc2 := Lib.hid hc2
  have Hmb5 := Lib.hid (And.intro hmb5 hmf2)
  rename_i hHeld
  obtain ⟨g0, c0⟩ := hHeld
  clear T2 U2 ht2 hU2 hmb5 hmf2 hG4 hB hb4 r0 z0 q0 q1 hN2 hN2r HGc HNc hRO hmb HB2 HNr HPr hnb1 hnb2 hgl1 hc9 hc5 hc2
  obtain ⟨cb, cc, ckv, hN2c, c02, hGc, hcb⟩ := HT2.out.pairsOf c (by omega) (by rw [Hc2.out]; show 0 < P.length; have := H9.out; omega)
  rw [Hc2.out] at hN2c c02 hGc
  simp only at hN2c c02 hGc
  rw [H9.out] at hN2c c02 hGc
  rw [hnb2'] at c02
  have hc4 : (4 : Int) ≤ (cc : Int) := by have := (grow_cap hGc).2.1; omega
  have hRO : Hid (Calls Try.prog 41 #[.slice (some ⟨cb, 0, none⟩) 4 cc] w5 fun e w' => ∃ g, e = .returned (.slice (some ⟨g, 0, none⟩) 4 4) ∧ Grow PrT 2 prCells 0 (.slice (some ⟨g, 0, none⟩) 4 4) (P.take 4) w' ∧ w5.heap.size ≤ g ∧ Below w5.heap.size w5 w') := Lib.hid (by
    have hl : (P.take 4).length = 4 := by rw [List.length_take, H9.out]; rfl
    have hr := (hGc.short prCells_len 4 (by rw [H9.out]; omega)).rows prCells_len
    have := ownPr_any (P.take 4) (some ⟨cb, 0, none⟩) cc (by omega) w5 (by rw [hl]; exact hr)
    rw [hl] at this
    exact this)
  have z0 : w5.frozen? ⟨m1.nb, c * 2, none⟩ = false := by rw [← hnb2']; exact HT2.out.thaw _
  have hnb5 : m1.nb < w5.heap.size := by rw [← hnb2']; exact HT2.out.nb_lt
  have HNc := Lib.hid hN2c
  clear hN2c hGc c0 g0
  go_upto_region 6 with (go_at_call 41; (with_reducible refine hRO.out.mono ?_); rintro e w6 ⟨rg6, rfl, hG6, hrg6, hb6⟩; have q0 := Grew.cell hb6 c02; have q1 := (Below.frozen hb6 (p := ⟨m1.nb, c * 2, none⟩) hnb5).trans z0; have hnb6 : m1.nb < w6.heap.size := Nat.lt_of_lt_of_le hnb5 hb6.size)
  obtain ⟨m3, T3, U3, hnb3', -, -, -, -⟩ := HT2.out.putP c HNc.out (grown_below hb6 _) hG6 (.inr fun b hb => by simp only [Value.ownBlock, Option.some.injEq] at hb; omega)
  rw [hnb2'] at T3 U3
  obtain ⟨hmb7, hmf3⟩ := U3.blk Hmb5.out.1 Hmb5.out.2
  generalize w6.setCell ⟨m1.nb, c * 2, none⟩ (.slice (some ⟨rg6, 0, none⟩) 4 4) = w7 at *
  obtain ⟨t3, ht3⟩ : ∃ t3, t3 = t2.put c ⟨P.take 4, (t2.nd c).ks⟩ := ⟨_, rfl⟩
  rw [← ht3] at T3
  have hl3 : t3.nodes.length = t2.nodes.length := by rw [ht3, put_len]
  have hc3 : t3.nd c = ⟨P.take 4, Q⟩ := by rw [ht3, nd_put_same (by omega), Hc2.out]
  have hr3 : t3.nd r = ⟨P.drop 5, []⟩ := by rw [ht3, nd_put_ne (Ne.symm hcr), Ht2.out, nd_put_same hrlt1, HT.out.rnd]; rfl
  have hnb3 : m3.nb = m1.nb := hnb3'.trans hnb2'
  have HT3 := Lib.hid T3
  have HS3 := Lib.hid (HS2.out.trans U3)
  have Hmb7 := Lib.hid (And.intro hmb7 hmf3)
  have Ht3 := Lib.hid ht3
  have Hc3 := Lib.hid hc3
  have Hr3 := Lib.hid hr3
  clear T3 U3 hmb7 hmf3 ht3 hc3 hr3 HT2 HS2 Hmb5 hG6 hb6 q0 q1 hnb6 hRO HNc z0 hnb5 c02 hc4 hcb hrg6 hnb3' Hc2
  obtain ⟨pv, kv, hN3, c30, c31, hP3, hK3⟩ := HT3.out.node c (by omega)
  obtain ⟨ka, kc, hkv⟩ := hK3.slice
  rw [hkv, Hc3.out, hnb3] at c31
  simp only at c31
  clear hN3 c30 hP3 hK3 hkv
  go_upto_if 63 with (fail)
  go_cut [] from 58 to 85 (fun wc => ∃ m5, TreeAt m5 ((t1.put r ⟨P.drop 5, Q.drop 5⟩).put c ⟨P.take 4, Q.take 5⟩) wc ∧ Stp m m5 w wc ∧ m5.nb = m1.nb ∧ BlkAt w1.heap.size PrT [.string (bs mid.1), .int .i64 mid.2] wc ∧ ¬ m5.foot w1.heap.size)
  case first =>
    rcases HKC.out with ⟨hq0, _⟩ | ⟨e, _, hq⟩
    · have HF : Hid (TreeAt m3 ((t1.put r ⟨P.drop 5, Q.drop 5⟩).put c ⟨P.take 4, Q.take 5⟩) w7) := Lib.hid (by
        have hQ0 : Q = [] := List.eq_nil_of_length_eq_zero hq0
        have e2 : (t2.nd c).ks = Q := by rw [Ht2.out, nd_put_ne hcr, HC1.out]
        have e1 : t3 = (t1.put r ⟨P.drop 5, Q.drop 5⟩).put c ⟨P.take 4, Q.take 5⟩ := by rw [Ht3.out, e2, Ht2.out, HT.out.rnd, hQ0]; rfl
        rw [← e1]; exact HT3.out)
      have hQ0 : Q = [] := List.eq_nil_of_length_eq_zero hq0
      rw [hQ0]
      clear hq0 hQ0 HKC HQ HC1 Hc3 c31
      go_wp2
      go_meet
      case rel => exact ⟨m3, HF.out, HS3.out, hnb3, Hmb7.out.1, Hmb7.out.2⟩
    · obtain ⟨kb, kc, kpv, hN3c, c31, hG3c, hkb⟩ := HT3.out.kidsOf c (by omega) (by rw [Hc3.out]; show 0 < Q.length; omega)
      have hq10 : Q.length = 10 := by rw [hq, ← HP.out, H9.out]
      have hQ0 : 0 < Q.length := by omega
      rw [Hc3.out] at hN3c c31 hG3c
      simp only at hN3c c31 hG3c
      rw [hq10] at hN3c c31 hG3c
      rw [hnb3] at c31
      have g0 := HT3.out.top.cell (i := 0) rfl
      rw [HS3.out.g, hnb3] at g0
      obtain ⟨rpv, rkv, hN3r, r0, r1, _, _⟩ := HT3.out.node r (by omega)
      rw [hnb3] at r1
      have z1 : w7.frozen? ⟨m1.nb, r * 2 + 1, none⟩ = false := by rw [← hnb3]; exact HT3.out.thaw _
      have hnb7 : m1.nb < w7.heap.size := by rw [← hnb3]; exact HT3.out.nb_lt
      have hk10 : 10 ≤ kc := (grow_cap hG3c).2.1
      have hk5 : ¬ kc = 5 := by omega
      have hrr3 : (r : Int) < (t3.nodes.length : Int) := by omega
      have hRO : Hid (∀ W, Below w7.heap.size w7 W → Calls Try.prog 42 #[.slice (some ⟨kb, 5, none⟩) 5 (kc - 5)] W fun e w' => ∃ g, e = .returned (.slice (some ⟨g, 0, none⟩) 5 5) ∧ Grow InT 1 inCells 0 (.slice (some ⟨g, 0, none⟩) 5 5) (Q.drop 5) w' ∧ W.heap.size ≤ g ∧ Below W.heap.size W w') := Lib.hid (fun W hW => by
        have hr := rows_from (hG3c.below hW) inCells_len 5 5 (by rw [hq10]; omega) (by rw [hq10]) (kc - 5)
        rw [Nat.mul_one] at hr
        have hl : (Q.drop 5).length = 5 := by rw [List.length_drop, hq10]
        have := ownIn_any (Q.drop 5) (some ⟨kb, 5, none⟩) (kc - 5) (by omega) W (by rw [hl]; exact hr)
        rw [hl] at this
        exact this)
      have HNr := Lib.hid hN3r
      have HN3c := Lib.hid hN3c
      have HG3c := Lib.hid hG3c
      have Hq10 := Lib.hid hq10
      have hnbg : m1.nb ≠ m.g := by have := HT3.out.g_nb; rwa [HS3.out.g, hnb3] at this
      have hrc3 : r * 2 + 1 ≠ c * 2 + 1 := by omega
      clear hN3r hN3c hG3c hq10 r0 hq
      go_upto_region 7 with (fail)
      have hB : Below w7.heap.size w7 w7.drew := (Below.refl _ w7).drew
      go_region_held3 (fun w' => w'.cell? ⟨m.g, 0, none⟩ = some (.slice (some ⟨m1.nb, 0, none⟩) t3.nodes.length m3.nc) ∧ w'.cell? ⟨m1.nb, c * 2 + 1, none⟩ = some (.slice (some ⟨kb, 0, none⟩) 10 kc)) (first | exact ⟨Grew.cell hB g0, Grew.cell hB c31⟩ | exact ⟨(set_far (.inl hnbg)).trans (Grew.cell hB g0), (set_far (.inr hrc3)).trans (Grew.cell hB c31)⟩ | go_keep) (first | (go_at_call 42; (with_reducible refine (hRO.out _ hB).mono ?_); rintro e w4 ⟨rg, rfl, hG4, hrg, hb4⟩; have hB := hB.trans (hb4.mono hB.size); have q0 := Grew.cell hB r1; have q1 := (Below.frozen hB (p := ⟨m1.nb, r * 2 + 1, none⟩) hnb7).trans z1; have hnb4 : m1.nb < w4.heap.size := Nat.lt_of_lt_of_le hnb7 hB.size))
      rename_i hHeld
      obtain ⟨m4, T4, U4, hnb4', -, -, hN4r, hN4⟩ := HT3.out.putK r HNr.out (grown_below hB _) hG4 (.inr fun b hb => by simp only [Value.ownBlock, Option.some.injEq] at hb; have : w7.heap.size ≤ rg := hrg; omega)
      rw [hnb3] at T4 U4
      obtain ⟨hmb8, hmf4⟩ := U4.blk Hmb7.out.1 Hmb7.out.2
      generalize w4.setCell ⟨m1.nb, r * 2 + 1, none⟩ (.slice (some ⟨rg, 0, none⟩) 5 5) = w8 at *
      obtain ⟨-, c41⟩ := hHeld
      have hnb4e : m4.nb = m1.nb := hnb4'.trans hnb3
      obtain ⟨t4, ht4⟩ : ∃ t4, t4 = t3.put r ⟨(t3.nd r).ps, Q.drop 5⟩ := ⟨_, rfl⟩
      rw [← ht4] at T4
      have hl4 : t4.nodes.length = t3.nodes.length := by rw [ht4, put_len]
      have hc4 : t4.nd c = ⟨P.take 4, Q⟩ := by rw [ht4, nd_put_ne hcr, Hc3.out]
      have HT4 := Lib.hid T4
      have HS4 := Lib.hid (HS3.out.trans U4)
      have Hmb8 := Lib.hid (And.intro hmb8 hmf4)
      have Ht4 := Lib.hid ht4
      have Hc4 := Lib.hid hc4
      clear T4 U4 hmb8 hmf4 ht4 hc4 HT3 HS3 Hmb7 hG4 hB hb4 q0 q1 hN4r hN4 HNr HN3c HG3c hRO z1 c31 g0 r1 hk10 hk5 hkb hnb7 hrr3 Hc3
      obtain ⟨kb, kc, kpv, hN4c, c42, hG4c, hkb⟩ := HT4.out.kidsOf c (by omega) (by rw [Hc4.out]; show 0 < Q.length; have := Hq10.out; omega)
      rw [Hc4.out] at hN4c c42 hG4c
      simp only at hN4c c42 hG4c
      rw [Hq10.out] at hN4c c42 hG4c
      rw [hnb4e] at c42
      have hk5 : (5 : Int) ≤ (kc : Int) := by have := (grow_cap hG4c).2.1; omega
      have hRO : Hid (Calls Try.prog 42 #[.slice (some ⟨kb, 0, none⟩) 5 kc] w8 fun e w' => ∃ g, e = .returned (.slice (some ⟨g, 0, none⟩) 5 5) ∧ Grow InT 1 inCells 0 (.slice (some ⟨g, 0, none⟩) 5 5) (Q.take 5) w' ∧ w8.heap.size ≤ g ∧ Below w8.heap.size w8 w') := Lib.hid (by
        have hl : (Q.take 5).length = 5 := by rw [List.length_take, Hq10.out]; rfl
        have hr := (hG4c.short inCells_len 5 (by rw [Hq10.out]; omega)).rows inCells_len
        have := ownIn_any (Q.take 5) (some ⟨kb, 0, none⟩) kc (by omega) w8 (by rw [hl]; exact hr)
        rw [hl] at this
        exact this)
      have z0 : w8.frozen? ⟨m1.nb, c * 2 + 1, none⟩ = false := by rw [← hnb4e]; exact HT4.out.thaw _
      have hnb8 : m1.nb < w8.heap.size := by rw [← hnb4e]; exact HT4.out.nb_lt
      have HNc := Lib.hid hN4c
      clear hN4c hG4c c41
      go_wp2_with (go_at_call 42; (with_reducible refine hRO.out.mono ?_); rintro e w9 ⟨rg9, rfl, hG9, hrg9, hb9⟩; have q0 := Grew.cell hb9 c42; have q1 := (Below.frozen hb9 (p := ⟨m1.nb, c * 2 + 1, none⟩) hnb8).trans z0; have hnb9 : m1.nb < w9.heap.size := Nat.lt_of_lt_of_le hnb8 hb9.size)
      obtain ⟨m5, T5, U5, hnb5', -, -, -, -⟩ := HT4.out.putK c HNc.out (grown_below hb9 _) hG9 (.inr fun b hb => by simp only [Value.ownBlock, Option.some.injEq] at hb; omega)
      rw [hnb4e] at T5 U5
      obtain ⟨hmb9, hmf5⟩ := U5.blk Hmb8.out.1 Hmb8.out.2
      go_meet
      case rel =>
        refine ⟨m5, T5.same (by rw [put_len, put_len, put_len]; omega) (fun x _ => ?_) ?_ ?_ ?_, HS4.out.trans U5, hnb5'.trans hnb4e, hmb9, hmf5⟩
        · have hcr' : ¬ r = c := fun e => hcr e.symm
          rw [nd2 hrlt1 hclt1 x, show (t4.nd c).ps = P.take 4 by rw [Hc4.out], Ht4.out, nd2 (t := t3) (by omega) (by omega) x, Hr3.out, Ht3.out, Ht2.out]
          by_cases e1 : x = c
          · rw [if_pos e1, if_pos e1]
          · rw [if_neg e1, if_neg e1]
            by_cases e2 : x = r
            · rw [if_pos e2, if_pos e2]
            · rw [if_neg e2, if_neg e2, nd_put_ne e1, nd_put_ne e2]
        · rw [Ht4.out, Ht3.out, Ht2.out]; rfl
        · rw [Ht4.out, Ht3.out, Ht2.out]; rfl
        · rw [Ht4.out, Ht3.out, Ht2.out]; rfl
  case rest =>
    obtain ⟨m5, T5, U5, hnb5, hmb5, hmf5⟩ := hcut
    obtain ⟨t5, ht5⟩ : ∃ t5, t5 = (t1.put r ⟨P.drop 5, Q.drop 5⟩).put c ⟨P.take 4, Q.take 5⟩ := ⟨_, rfl⟩
    rw [← ht5] at T5
    obtain ⟨PA, hPA⟩ : ∃ x, x = (t.nd a).ps := ⟨_, rfl⟩
    obtain ⟨KA, hKA⟩ : ∃ x, x = (t.nd a).ks := ⟨_, rfl⟩
    have ha5 : t5.nd a = ⟨PA, KA⟩ := by rw [ht5, nd_put_ne (Ne.symm hca), nd_put_ne har, HT.out.nd, hPA, hKA]
    have hl5 : t5.nodes.length = t1.nodes.length := by rw [ht5, put_len, put_len]
    have halt5 : a < t5.nodes.length := by have := HT.out.len; omega
    rw [← hPA] at h8
    have hApos : A.length ≤ PA.length := by
      have h1 := hg.ok
      rw [Tr.ok] at h1
      have h2 := h1.2.1
      rw [HK.out, ← hPA] at h2
      simp at h2
      omega
    have hKl : KA.length = PA.length + 1 := by
      have h1 := hg.ok
      rw [Tr.ok] at h1
      rw [hKA, hPA]; exact h1.2.1
    obtain ⟨pv, kv, hN5, a50, a51, hP5, hK5⟩ := T5.node a halt5
    rw [ha5] at hP5 hK5
    simp only at hP5 hK5
    rw [hnb5] at a50
    have g0 := T5.top.cell (i := 0) rfl
    rw [U5.g, hnb5] at g0
    have x0 := hmb5.cell (i := 0) rfl
    have x1 := hmb5.cell (i := 1) rfl
    have z0 : wc.frozen? ⟨m1.nb, a * 2, none⟩ = false := by rw [← hnb5]; exact T5.thaw _
    have hnbc : m1.nb < wc.heap.size := by rw [← hnb5]; exact T5.nb_lt
    have hmbl : w1.heap.size < wc.heap.size := hmb5.lt
    have haa5 : (a : Int) < (t5.nodes.length : Int) := by omega
    have HPut := Lib.hid (putPr_any pv PA A.length hApos (by omega) mid wc.drew hP5.drew)
    have hpne : some m1.nb ≠ pv.ownBlock := fun e => by
      have := hP5.ne T5.row (by decide) e.symm
      exact this (by rw [hnb5]; rfl)
    have HPne := Lib.hid hpne
    have HT5 := Lib.hid T5
    have HS5 := Lib.hid U5
    have Ht5 := Lib.hid ht5
    have Ha5 := Lib.hid ha5
    have HNa := Lib.hid hN5
    have HPA := Lib.hid hPA
    have HKA := Lib.hid hKA
    have HKl := Lib.hid hKl
    unfold prCells PutSaid at HPut
    clear T5 U5 hmf5 hmb5 ht5 hPA hKA ha5 hN5 a51 hP5 hK5 hpne hKl HT3 HS3 Hmb7 Ht3 Hc3 Hr3 HC1 HKC H1 S1 Ht2 c31 hl3 hl2 hnb3 hab h4P
    go_upto_region 10 with (fail)
    go_region_with ((go_at_call 35; (with_reducible refine HPut.out.mono ?_); rintro e w10 ⟨pg, pgc, rfl, hG10, hgr10, hpg⟩; have hgr11 := (grown_drew wc pv.ownBlock).trans hgr10; have q0 := hgr11.cell a50 HPne.out; have q1 := (frozen_of_block (hgr11.block m1.nb hnbc HPne.out) (a * 2)).trans z0; have hnb10 : m1.nb < w10.heap.size := Nat.lt_of_lt_of_le hnbc hgr11.size))
    all_goals
      obtain ⟨m6, T6, U6, hnb6', -, -, -, -⟩ := HT5.out.putP a HNa.out hgr11 hG10 (by
        rcases hpg with h' | h'
        · left; rw [h']; rfl
        · right; intro b hb; simp only [Value.ownBlock, Option.some.injEq] at hb; have : wc.heap.size ≤ pg := h'; omega)
      rw [hnb5] at T6 U6
      generalize w10.setCell ⟨m1.nb, a * 2, none⟩ _ = w11 at *
      rw [Ha5.out] at T6
      obtain ⟨t6, ht6⟩ : ∃ t6, t6 = t5.put a ⟨putL PA A.length mid, KA⟩ := ⟨_, rfl⟩
      rw [← ht6] at T6
      have hnb6 : m6.nb = m1.nb := hnb6'.trans hnb5
      have hl6 : t6.nodes.length = t5.nodes.length := by rw [ht6, put_len]
      have ha6 : t6.nd a = ⟨putL PA A.length mid, KA⟩ := by rw [ht6, nd_put_same halt5]
      obtain ⟨pv6, kv6, hN6, a60, a61, hP6, hK6⟩ := T6.node a (by omega)
      rw [ha6] at hP6 hK6
      simp only at hP6 hK6
      rw [hnb6] at a61
      have z6 : w11.frozen? ⟨m1.nb, a * 2 + 1, none⟩ = false := by rw [← hnb6]; exact T6.thaw _
      have hnb11 : m1.nb < w11.heap.size := by rw [← hnb6]; exact T6.nb_lt
      have HPutK := Lib.hid (putIn_any kv6 KA (A.length + 1) (by have := HKl.out; omega) (by have := HKl.out; omega) r w11 hK6)
      have hkne : some m1.nb ≠ kv6.ownBlock := fun e => by
        have := hK6.ne T6.row (by decide) e.symm
        exact this (by rw [hnb6]; rfl)
      have HKne := Lib.hid hkne
      have HT6 := Lib.hid T6
      have HS6 := Lib.hid (HS5.out.trans U6)
      have Ht6 := Lib.hid ht6
      have Ha6 := Lib.hid ha6
      have HNa := Lib.hid hN6
      have hAl9 : A.length ≤ 9 := by omega
      unfold PutSaid at HPutK
      simp only [Int.natCast_add, Int.natCast_one] at HPutK
      clear T6 U6 ht6 ha6 hN6 a60 hP6 hK6 hkne HT5 HS5 Ha5 hgr10 hgr11 hG10 hpg q0 q1 hnb10 HPut a50 x0 x1 z0 hnbc hmbl haa5 g0
      go_wp2_with (go_at_call 43; (with_reducible refine HPutK.out.mono ?_); rintro e w12 ⟨qg, qgc, rfl, hG12, hgr12, hqg⟩; have q0 := hgr12.cell a61 HKne.out; have q1 := (frozen_of_block (hgr12.block m1.nb hnb11 HKne.out) (a * 2 + 1)).trans z6; have hnb12 : m1.nb < w12.heap.size := Nat.lt_of_lt_of_le hnb11 hgr12.size)
      obtain ⟨m7, T7, U7, hnb7', -, -, -, -⟩ := HT6.out.putK a HNa.out hgr12 hG12 (by
        rcases hqg with h' | h'
        · left; rw [h']; rfl
        · right; intro b hb; simp only [Value.ownBlock, Option.some.injEq] at hb; omega)
      rw [hnb6] at T7 U7
      go_end0
      have hs : splitT t a A.length = t5.put a ⟨putL PA A.length mid, putL KA (A.length + 1) r⟩ := by
        unfold splitT
        rw [HGD.out, ← HTT.out.1, ← HTT.out.2, ← HP.out, ← HQ.out, ← HPA.out, ← HKA.out, Ht5.out, HM.out]
        rfl
      rw [hs]
      refine ⟨m7, rfl, T7.same ?_ (fun x hx => ?_) ?_ ?_ ?_, HS6.out.trans U7⟩
      · rw [put_len, put_len]; omega
      · rw [Ha6.out]
        by_cases e1 : x = a
        · subst e1; rw [nd_put_same halt5, nd_put_same (by omega)]
        · rw [nd_put_ne e1, nd_put_ne e1, Ht6.out, nd_put_ne e1]
      · rw [Ht6.out]; rfl
      · rw [Ht6.out]; rfl
      · rw [Ht6.out]; rfl
end
end Go.Proofs.Yteoibolompiohaa
