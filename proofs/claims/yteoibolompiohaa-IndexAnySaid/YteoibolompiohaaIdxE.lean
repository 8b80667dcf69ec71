/- The walk of Set. Conditions: as each theorem says. -/
import Derived.Test.YteoibolompiohaaIdxB
import Derived.Deep.DeepCutAuto
namespace Go.Proofs.Yteoibolompiohaa
open Go.RowKit

section
variable {m : Mem} {t : Tr} {w : World} {d a : Nat}
theorem take_len (t : Tr) : (takeT t).2.nodes.length ≤ t.nodes.length + 1 ∧ (takeT t).2.free.length ≤ t.free.length := by
  unfold takeT
  split
  · simp
  · simp
theorem split_len (t : Tr) (a i : Nat) : (splitT t a i).nodes.length ≤ t.nodes.length + 1 ∧ (splitT t a i).free.length ≤ t.free.length := by
  have := take_len t
  unfold splitT
  rw [put_len, put_len, put_len]
  exact this
/-- Behind a halving the kid that comes next isn't full. -/
theorem split_next (h : t.Good (d + 1) a) (k : Key) (h9 : (t.nd ((t.nd a).ks.getD (spotF (t.nd a).ps k) 0)).ps.length = 9) (h8 : (t.nd a).ps.length ≤ 8) :
    (splitT t a (spotF (t.nd a).ps k)).Good (d + 1) a ∧ ((splitT t a (spotF (t.nd a).ps k)).nd ((((splitT t a (spotF (t.nd a).ps k)).nd a).ks).getD (spotF ((splitT t a (spotF (t.nd a).ps k)).nd a).ps k) 0)).ps.length ≤ 8 := by
  have hsp := spot_kid h k
  have hk := split_at (t.nd a).ks (spotF (t.nd a).ps k) hsp
  have hg : (t.nd a).ks.getD (spotF (t.nd a).ps k) 0 = (t.nd a).ks[spotF (t.nd a).ps k] := by simp [List.getD, hsp]
  have hAl : ((t.nd a).ks.take (spotF (t.nd a).ps k)).length = spotF (t.nd a).ps k := by simp; omega
  have h9' := h9
  rw [hg] at h9'
  obtain ⟨hc, hcont, hm, hnd, hc4, hr4, _⟩ := split_law h hk h9' h8
  rw [hAl] at hc hcont hm hnd hc4 hr4
  refine ⟨good_of_chg h hc, ?_⟩
  have hks : ((splitT t a (spotF (t.nd a).ps k)).nd a).ks = (t.nd a).ks.take (spotF (t.nd a).ps k) ++ (t.nd a).ks[spotF (t.nd a).ps k] :: (takeT t).1 :: (t.nd a).ks.drop (spotF (t.nd a).ps k + 1) := by rw [hnd]
  have hps : ((splitT t a (spotF (t.nd a).ps k)).nd a).ps = putL (t.nd a).ps (spotF (t.nd a).ps k) ((t.nd (t.nd a).ks[spotF (t.nd a).ps k]).ps.getD 4 ([], 0)) := by rw [hnd]
  rw [hks, hps]
  rcases spotF_put (t.nd a).ps k ((t.nd (t.nd a).ks[spotF (t.nd a).ps k]).ps.getD 4 ([], 0)) with e | e
  · rw [e]
    have := getD_at ((t.nd a).ks.take (spotF (t.nd a).ps k)) (t.nd a).ks[spotF (t.nd a).ps k] ((takeT t).1 :: (t.nd a).ks.drop (spotF (t.nd a).ps k + 1))
    rw [hAl] at this
    rw [this, hc4]; omega
  · rw [e]
    have := getD_at2 ((t.nd a).ks.take (spotF (t.nd a).ps k)) (t.nd a).ks[spotF (t.nd a).ps k] (takeT t).1 ((t.nd a).ks.drop (spotF (t.nd a).ps k + 1))
    rw [hAl] at this
    rw [this, hr4]; omega
/-- A slice of one that was just built. -/
theorem built_one (w : World) (x : Nat) : Grow InT 1 inCells 0 (.slice (some ⟨w.heap.size, 0, none⟩) 1 1) [x] (w.alloc (.cells #[.int .i64 (x : Int)] InT)) :=
  ⟨rfl, .inr ⟨w.heap.size, 1, #[.int .i64 (x : Int)], rfl, Nat.zero_le _, heap_alloc_new w _, Nat.le_refl _, by decide, rfl, rfl⟩⟩
/-- What the root's growing comes to. -/
def GrewSaid (m : Mem) (t : Tr) (w wc : World) : Prop := ∃ m1, TreeAt m1 (growT t) wc ∧ Stp m m1 w wc
theorem grow_len (t : Tr) : (growT t).nodes.length ≤ t.nodes.length + 2 ∧ (growT t).free.length ≤ t.free.length := by
  unfold growT
  split
  · have h1 := take_len t
    have h2 := split_len ({ (takeT t).2.put (takeT t).1 ⟨[], [t.root]⟩ with root := (takeT t).1 } : Tr) (takeT t).1 0
    have h3 : ({ (takeT t).2.put (takeT t).1 ⟨[], [t.root]⟩ with root := (takeT t).1 } : Tr).nodes.length = (takeT t).2.nodes.length := put_len
    have h4 : ({ (takeT t).2.put (takeT t).1 ⟨[], [t.root]⟩ with root := (takeT t).1 } : Tr).free.length = (takeT t).2.free.length := rfl
    omega
  · omega
/-- What holds at each round of Set's way down. -/
def SetRel (m : Mem) (w : World) (k : Key) (n : Int) (R : Tr × Int × Bool) (gk : Nat) (v9 : Value) (wr : World) : Prop :=
  ∃ (a d : Nat) (t1 : Tr) (m1 : Mem), v9 = .int .i64 (a : Int) ∧ setO gk t1 a k n = some R ∧ t1.Good d a ∧ ((t1.nd ((t1.nd a).ks.getD (spotF (t1.nd a).ps k) 0)).ps.length = 9 → hasF (t1.nd a).ps k = false → (t1.nd a).ps.length ≤ 8) ∧
    TreeAt m1 t1 wr ∧ Stp m m1 w wr ∧ t1.nodes.length + gk ≤ 2000 ∧ t1.free.length ≤ 1000 ∧ t1.many ≤ 1000000
/-- What Set comes to. -/
def SetAt (m : Mem) (t' : Tr) (v : Int) (b : Bool) (w : World) (e : Ending) (w' : World) : Prop := ∃ m', e = .returned (.tuple #[.int .i64 v, .bool b]) ∧ TreeAt m' t' w' ∧ Stp m m' w w'
set_option maxRecDepth 100000 in
set_option maxHeartbeats 4000000 in
theorem set_any (h : TreeAt m t w) {hi : Nat} (hwf : t.wf d hi) (hn : t.nodes.length ≤ 1000) (hf : t.free.length ≤ 1000) (hmm : t.many ≤ 1000000) (k : Key) (n : Int) (t' : Tr) (v : Int) (b : Bool) (hR : setT t k n = some (t', v, b)) :
    Calls Try.prog 21 #[ptrV m.g, .string (bs k), .int .i64 n] w (SetAt m t' v b w) := by
  have hroot := ok_lt hwf.good.ok
  have hps9 := ok_ps hwf.good.ok
  have g0 := h.top.cell (i := 0) rfl
  have g2 := h.top.cell (i := 2) rfl
  obtain ⟨pa, pc, ka, kc, c0, c1, hp, hk⟩ := h.read t.root hroot
  have hrr : (t.root : Int) < (t.nodes.length : Int) := by omega
  have H := Lib.hid h
  have HW := Lib.hid hwf
  have HR := Lib.hid hR
  have HM := Lib.hid hmm
  clear h hwf hR hp hk c1 hmm
  unfold ptrV
  go_enter Try.func21, Try.ntmps21
  go_wp2
  go_region
  go_upto_if 28 with (fail)
  go_cut [] from 8 to 49 (fun wc => GrewSaid m t w wc)
  case first =>
    by_cases h9 : (t.nd t.root).ps.length = 9
    · as_aux_lemma =>
      obtain ⟨q1, q2, q3, q4, q5⟩ := top_good HW.out.good h9 HW.out.all
      have hG : growT t = splitT { (takeT t).2.put (takeT t).1 ⟨[], [t.root]⟩ with root := (takeT t).1 } (takeT t).1 0 := by unfold growT; rw [if_pos h9]
      have hT := take_facts t HW.out.good.frees
      have hlt := take_len t
      have H0 := Lib.hid (H.out.drew)
      have HTk := Lib.hid (take_any (H.out.drew) (by omega) (by omega))
      have hb9 : (((t.nd t.root).ps.length : Int) == 9) = true := by rw [h9]; rfl
      obtain ⟨r, hr⟩ : ∃ r, r = (takeT t).1 := ⟨_, rfl⟩
      obtain ⟨t1, ht1⟩ : ∃ t1, t1 = (takeT t).2 := ⟨_, rfl⟩
      have HTT := Lib.hid (And.intro hr ht1)
      unfold TakeSaid ptrV at HTk
      rw [← hr, ← ht1] at hG q1 q3 q4 HTk hT
      rw [← ht1] at hlt
      have hroot1 : t1.root = t.root := hT.root
      have hrlt := hT.rlt
      obtain ⟨t2, ht2⟩ : ∃ t2, t2 = ({ t1.put r ⟨[], [t.root]⟩ with root := r } : Tr) := ⟨_, rfl⟩
      rw [← ht2] at hG q1 q3 q4
      have HG := Lib.hid hG
      have HQ := Lib.hid (And.intro q1 (And.intro q3 q4))
      have HT := Lib.hid hT
      have Ht2 := Lib.hid ht2
      have H9 := Lib.hid h9
      have hl2 : t2.nodes.length = t1.nodes.length := by rw [ht2]; exact put_len
      clear hG hT q1 q2 q3 q4 q5 hr ht1 ht2 h9 g0 g2 c0
      go_wp2_with (go_at_call 33; (with_reducible refine HTk.out.mono ?_); rintro e w1 ⟨m1, rfl, h1, s1⟩)
      have g0 := h1.top.cell (i := 0) rfl
      have g2 := h1.top.cell (i := 2) rfl
      rw [s1.g] at g0 g2
      rw [hroot1] at g2
      obtain ⟨rpv, rkv, hNr, r0, r1, _, _⟩ := h1.node r hrlt
      have z1 : w1.frozen? ⟨m1.nb, r * 2 + 1, none⟩ = false := h1.thaw _
      have hnb1 := h1.nb_lt
      have hgl1 := h1.g_lt
      rw [s1.g] at hgl1
      have hrr1 : (r : Int) < (t1.nodes.length : Int) := by omega
      have H1 := Lib.hid h1
      have S1 := Lib.hid s1
      have HNr := Lib.hid hNr
      have hnbg : m1.nb ≠ m.g := by have := h1.g_nb; rwa [s1.g] at this
      clear h1 s1 hNr r0 HTk
      have hB : Below w1.heap.size w1 w1.drew := (Below.refl _ w1).drew
      have hBa := hB.alloc (by simp) (.cells #[.int .i64 (t.root : Int)] InT)
      go_region_held3 (fun w' => w'.cell? ⟨m.g, 0, none⟩ = some (.slice (some ⟨m1.nb, 0, none⟩) t1.nodes.length m1.nc) ∧ w'.cell? ⟨m.g, 2, none⟩ = some (.int .i64 (t.root : Int))) (first | exact ⟨Grew.cell hB g0, Grew.cell hB g2⟩ | exact ⟨Grew.cell hBa g0, Grew.cell hBa g2⟩ | exact ⟨(set_far (.inl hnbg)).trans (Grew.cell hBa g0), (set_far (.inl hnbg)).trans (Grew.cell hBa g2)⟩ | go_keep) (fail)
      have hone : Grow InT 1 inCells 0 (.slice (some ⟨w1.heap.size, 0, none⟩) 1 1) [t.root] (w1.drew.alloc (.cells #[.int .i64 (t.root : Int)] InT)) := built_one w1.drew t.root
      have hW : (w1.drew.alloc (.cells #[.int .i64 (t.root : Int)] InT)).setCell ⟨m1.nb, r * 2 + 1, none⟩ (.slice (some ⟨w1.heap.size, 0, none⟩) 1 1) = ((w1.setCell ⟨m1.nb, r * 2 + 1, none⟩ (.slice (some ⟨w1.heap.size, 0, none⟩) 1 1)).alloc (.cells #[.int .i64 (t.root : Int)] InT)).drew := by
        show ((w1.alloc _).setCell _ _).drew = _
        rw [World.setCell_alloc_past _ _ _ _ hnb1]
      obtain ⟨m2, T2, U2, hnb2', -, -, -, -⟩ := H1.out.putK r HNr.out (grown_below hBa _) hone (.inr fun b hb => by simp only [Value.ownBlock, Option.some.injEq] at hb; omega)
      have e2 : t1.put r ⟨(t1.nd r).ps, [t.root]⟩ = t1.put r ⟨[], [t.root]⟩ := by rw [HT.out.rnd]; rfl
      rw [e2, hW] at T2
      rw [hW] at U2
      clear e2 hW hone
      go_upto_region 6 with (fail)
      generalize ((w1.setCell ⟨m1.nb, r * 2 + 1, none⟩ (.slice (some ⟨w1.heap.size, 0, none⟩) 1 1)).alloc (.cells #[.int .i64 (t.root : Int)] InT)).drew = w2 at *
      obtain ⟨T3, U3⟩ := T2.setRoot r
      have e3 : ({ t1.put r ⟨[], [t.root]⟩ with root := r } : Tr) = t2 := Ht2.out.symm
      rw [e3] at T3
      have hg2 : m2.g = m.g := U2.g.trans S1.out.g
      rw [hg2] at T3 U3
      have hk2 : (t2.nd r).ks = [] ++ t.root :: [] := by rw [HQ.out.2.1]; rfl
      have hfl2 : t2.free.length ≤ 100000 := by rw [Ht2.out]; show t1.free.length ≤ _; omega
      have HSp := Lib.hid (split_any T3 HQ.out.1 hk2 (by rw [HQ.out.2.2]; exact H9.out) (by rw [HQ.out.2.1]; simp) (by omega) hfl2)
      rw [hg2, show (([] : List Nat).length : Int) = 0 from rfl, show ([] : List Nat).length = 0 from rfl, ← HG.out] at HSp
      have y2 := T2.top.cell (i := 2) rfl
      have f2 := T2.top.frozen 2
      have hgl2 := T2.g_lt
      rw [hg2] at y2 f2 hgl2
      have HU := Lib.hid ((S1.out.trans U2).trans U3)
      unfold ptrV StepSaid at HSp
      clear T2 U2 T3 U3 g0 g2 e3 hk2 hBa hB r1 z1
      go_wp2_with (go_at_call 34; (with_reducible refine HSp.out.mono ?_); rintro e w5 ⟨m5, rfl, h5, s5⟩)
      go_meet
      case rel => exact ⟨m5, h5, (Stp.of_below (m := m) (Below.refl _ w).drew).trans (HU.out.trans s5)⟩
    · as_aux_lemma =>
      have hG : growT t = t := by unfold growT; rw [if_neg h9]
      have HS : Hid (GrewSaid m t w w.drew) := Lib.hid ⟨m, by rw [hG]; exact H.out.drew, Stp.of_below (Below.refl _ w).drew⟩
      have hb9 : (((t.nd t.root).ps.length : Int) == 9) = false := beq_eq_false_iff_ne.2 (by omega)
      clear h9 hG
      go_wp2
      go_meet
      case rel => exact HS.out
  case rest =>
    obtain ⟨m1, h1, s1⟩ := hcut
    obtain ⟨d1, hg, _, _⟩ := grow_law HW.out
    have hlen := grow_len t
    have hmany : (growT t).many = t.many := hg.many
    have g2 := h1.top.cell (i := 2) rfl
    rw [s1.g] at g2
    have hR2 := HR.out
    unfold setT at hR2
    have HI : Hid (SetRel m w k n (t', v, b) 801 (.int .i64 ((growT t).root : Int)) wc) := Lib.hid ⟨(growT t).root, d1, growT t, m1, rfl, hR2, hg.good, fun _ _ => hg.room, h1, s1, by omega, by omega, by rw [hmany]; exact HM.out⟩
    clear h1 s1 hg hlen hmany hR2
    go_wp2
    go_loopg [9] 801 (fun gk v9 wr => SetRel m w k n (t', v, b) gk v9 wr)
    case atStart => exact HI.out
    case round =>
      obtain ⟨a, e, t1, m1, rfl, hset, hg1, hroom, h1, s1, hlen, hfree, hmany⟩ := hrel
      obtain ⟨f, rfl⟩ : ∃ f, gk = f + 1 := by
        cases gk with
        | zero => rw [setO] at hset; cases hset
        | succ f => exact ⟨f, rfl⟩
      have ha := ok_lt hg1.ok
      have h9 := ok_ps hg1.ok
      have hks := ok_len hg1.ok
      have HS := Lib.hid (spot_any h1 a ha (by omega) (by omega) k)
      have g0 := h1.top.cell (i := 0) rfl
      have g3 := h1.top.cell (i := 3) rfl
      have f3 := h1.top.frozen 3
      have hgl := h1.g_lt
      rw [s1.g] at g0 g3 f3 hgl
      obtain ⟨pv, kv, hN, c0, c1, hP, hK⟩ := h1.node a ha
      have haa : (a : Int) < (t1.nodes.length : Int) := by omega
      have hsp := spotF_le (t1.nd a).ps k
      have z0 : wr.frozen? ⟨m1.nb, a * 2, none⟩ = false := h1.thaw _
      have hnb := h1.nb_lt
      rw [setO] at hset
      have H1 := Lib.hid h1
      have S1 := Lib.hid s1
      have HG1 := Lib.hid hg1
      have HN := Lib.hid hN
      have HRm := Lib.hid hroom
      unfold ptrV at HS
      rw [s1.g] at HS
      clear h1 s1 hg1 hN hroom HI g2
      by_cases hi : hasF (t1.nd a).ps k = true
      · as_aux_lemma =>
        rw [if_pos hi] at hset
        simp only [Option.some.injEq, Prod.mk.injEq] at hset
        obtain ⟨ht', hv, hb⟩ := hset
        obtain ⟨hlt, he⟩ := hasF_lt hi
        obtain ⟨pb, pc, hpv, _⟩ := hP.form (by omega)
        subst hpv
        have hc := hP.cells prCells_len rfl _ hlt
        have k1 := hc 1 _ rfl
        have y1 := hP.thaw rfl (spotF (t1.nd a).ps k * 2 + 1)
        have hpb : pb < wr.heap.size := hP.ltb rfl
        have hnum : numF (t1.nd a).ps k = ((t1.nd a).ps[spotF (t1.nd a).ps k]).2 := by unfold numF; rw [List.getElem?_eq_getElem hlt]; simp [he]
        obtain ⟨hx, hNe⟩ := N_of a HN.out
        obtain ⟨T2, U2⟩ := H1.out.storeNum hx (b := pb) (by rw [hNe]) _ hlt k he n
        rw [ht'] at T2
        rw [hnum] at hv
        rw [hi] at HS
        have HT2 := Lib.hid T2
        have HU2 := Lib.hid (S1.out.trans U2)
        have HV := Lib.hid hv
        have hbb : b = true := hb.symm
        subst hbb
        have hil : (spotF (t1.nd a).ps k : Int) < ((t1.nd a).ps.length : Int) := by omega
        clear T2 U2 ht' hv hb hc hnum hNe hx hi he hP hK c1 hks
        generalize spotF (t1.nd a).ps k = i at *
        generalize ((t1.nd a).ps[i]).2 = q at *
        go_wp2_with (go_at_call 32; refine HS.out.mono ?_; rintro e w' ⟨rfl, rfl⟩)
        go_ret2
        exact ⟨m1, by rw [← HV.out]; rfl, HT2.out, HU2.out⟩
      rw [if_neg hi] at hset
      rw [Bool.not_eq_true] at hi
      rw [hi] at HS
      rcases hks with ⟨h0, rfl⟩ | ⟨e, rfl, hks⟩
      · as_aux_lemma =>
        rw [if_pos h0] at hset
        simp only [Option.some.injEq, Prod.mk.injEq] at hset
        obtain ⟨ht', hv, hb⟩ := hset
        obtain ⟨ka, kc, hkv⟩ := hK.slice
        rw [hkv, h0] at c1
        have HPut := Lib.hid (putPr_any pv (t1.nd a).ps (spotF (t1.nd a).ps k) hsp (by omega) (k, n) wr hP)
        simp only at HPut
        unfold PutSaid at HPut
        have hpne : some m1.nb ≠ pv.ownBlock := fun e => by
          have := hP.ne H1.out.row (by decide) e.symm
          exact this rfl
        have HPne := Lib.hid hpne
        have Ht' := Lib.hid ht'
        subst hv hb
        obtain ⟨pa, pc, hpv⟩ := hP.slice
        clear ht' hpne hP hK hkv hi
        rw [hpv] at c0
        have HPV := Lib.hid hpv
        rw [hpv] at HPut
        clear hpv
        go_upto_region 17 with (first | (go_at_call 32; (with_reducible refine HS.out.mono ?_); rintro e w' ⟨rfl, rfl⟩) | (go_at_call 35; (with_reducible refine HPut.out.mono ?_); rintro e w2 ⟨pg, pgc, rfl, hG2, hgr2, hpg⟩; rw [← HPV.out] at hgr2 hpg; have q0 := hgr2.cell c0 HPne.out; have q1 := (frozen_of_block (hgr2.block m1.nb hnb HPne.out) (a * 2)).trans z0; have hnb2 : m1.nb < w2.heap.size := Nat.lt_of_lt_of_le hnb hgr2.size))
        obtain ⟨m2, T2, U2, hnb2', -, -, -, -⟩ := H1.out.putP a HN.out hgr2 hG2 (by
          rcases hpg with h' | h'
          · left; rw [h']; rfl
          · right; intro b hb; simp only [Value.ownBlock, Option.some.injEq] at hb; omega)
        generalize w2.setCell ⟨m1.nb, a * 2, none⟩ _ = w3 at *
        have hg2 : m2.g = m.g := U2.g.trans S1.out.g
        have y3 := T2.top.cell (i := 3) rfl
        have e3 := T2.top.frozen 3
        have hgl3 := T2.g_lt
        rw [hg2] at y3 e3 hgl3
        obtain ⟨T3, U3⟩ := T2.setMany (t1.many + 1)
        rw [hg2] at T3 U3
        have HT3 := Lib.hid T3
        have HU3 := Lib.hid ((S1.out.trans U2).trans U3)
        have hm1 : ((t1.put a ⟨putL (t1.nd a).ps (spotF (t1.nd a).ps k) (k, n), (t1.nd a).ks⟩).many : Int) = (t1.many : Int) := rfl
        rw [hm1] at y3
        clear T2 U2 T3 U3 hgr2 hG2 hpg q0 q1 hnb2 HPut c0 c1 g0 g3 f3 z0 hm1 HS
        go_wp2
        go_ret2
        refine ⟨m2, rfl, ?_, ?_⟩
        · rw [← Ht'.out]
          have := HT3.out
          simpa using this
        · simpa using HU3.out
      · have hsp2 : spotF (t1.nd a).ps k < (t1.nd a).ks.length := by omega
        rw [if_neg (by omega)] at hset
        have hgd : (t1.nd a).ks.getD (spotF (t1.nd a).ps k) 0 = (t1.nd a).ks[spotF (t1.nd a).ps k] := by simp [List.getD, hsp2]
        rw [hgd] at hset
        have hRm := HRm.out
        rw [hgd] at hRm
        have hkd := ok_kid HG1.out.ok _ hsp2
        obtain ⟨c, hc⟩ : ∃ c, c = (t1.nd a).ks[spotF (t1.nd a).ps k] := ⟨_, rfl⟩
        rw [← hc] at hset hRm hkd
        have hclt := ok_lt hkd.1
        have hc9 := ok_ps hkd.1
        obtain ⟨kb, kc, hkv, _⟩ := hK.form (by omega)
        subst hkv
        have hcc := hK.cells inCells_len rfl _ hsp2
        rw [← hc] at hcc
        have k0 := hcc 0 _ rfl
        rw [Nat.mul_one, Nat.add_zero] at k0
        obtain ⟨cpv, ckv, hNc, cc0, cc1, hPc, hKc⟩ := H1.out.node c hclt
        obtain ⟨cpa, cpc, hcp⟩ := hPc.slice
        rw [hcp] at cc0
        have hpos : (((t1.nd a).ks.length : Int) == 0) = false := beq_eq_false_iff_ne.2 (by omega)
        have hil : (spotF (t1.nd a).ps k : Int) < ((t1.nd a).ks.length : Int) := by omega
        have hccl : (c : Int) < (t1.nodes.length : Int) := by omega
        have hks10 : (t1.nd a).ks.length ≤ 10 := by omega
        have Hsp := Lib.hid (And.intro hsp2 hc)
        clear hcc hNc cc1 hPc hKc hcp hgd hK hP
        by_cases hf9 : (t1.nd c).ps.length = 9
        · as_aux_lemma =>
          rw [if_pos hf9] at hset
          have hsplit := split_next (t := t1) HG1.out k (by rw [show (t1.nd a).ks.getD (spotF (t1.nd a).ps k) 0 = c by rw [hc]; simp [List.getD, Hsp.out.1]]; exact hf9) (hRm hf9 hi)
          have hspl : (t1.nd a).ks = (t1.nd a).ks.take (spotF (t1.nd a).ps k) ++ c :: (t1.nd a).ks.drop (spotF (t1.nd a).ps k + 1) := by rw [hc]; exact split_at _ _ Hsp.out.1
          have hAl : ((t1.nd a).ks.take (spotF (t1.nd a).ps k)).length = spotF (t1.nd a).ps k := by rw [List.length_take]; have := Hsp.out.1; omega
          have hSp := split_any H1.out.drew HG1.out hspl hf9 (hRm hf9 hi) (by omega) (by omega)
          rw [hAl, S1.out.g] at hSp
          have hsl := split_len t1 a (spotF (t1.nd a).ps k)
          have hb9 : (((t1.nd c).ps.length : Int) == 9) = true := by rw [hf9]; rfl
          have HSp := Lib.hid hSp
          have HR2 := Lib.hid (And.intro hset (And.intro hsplit hsl))
          have hb9 : (((t1.nd c).ps.length : Int) == 9) = true := by rw [hf9]; rfl
          have hmn : (splitT t1 a (spotF (t1.nd a).ps k)).many ≤ 1000000 := by
            obtain ⟨_, _, hm, _⟩ := split_law HG1.out hspl hf9 (hRm hf9 hi)
            rw [hAl] at hm
            rw [hm]; exact hmany
          have HMn := Lib.hid hmn
          clear hset hsplit hspl hAl hSp hsl hRm hf9 hc hi hmn
          unfold StepSaid ptrV at HSp
          go_wp2_with (go_at_call 32; (with_reducible refine HS.out.mono ?_); rintro e w' ⟨rfl, rfl⟩)
          go_region
          all_goals
            go_wp2_with (go_at_call 34; (with_reducible refine HSp.out.mono ?_); rintro e w5 ⟨m5, rfl, h5, s5⟩)
            go_roundg f
            case rel =>
              refine ⟨a, e + 1, _, m5, rfl, HR2.out.1, HR2.out.2.1.1, fun h1 _ => ?_, h5, (S1.out.trans (Stp.of_below (Below.refl _ _).drew)).trans s5, ?_, ?_, HMn.out⟩
              · have := HR2.out.2.1.2; omega
              · have := HR2.out.2.2; omega
              · have := HR2.out.2.2; omega
            case measure => omega
        · as_aux_lemma =>
          rw [if_neg hf9] at hset
          have hb9 : (((t1.nd c).ps.length : Int) == 9) = false := beq_eq_false_iff_ne.2 (by omega)
          have hgc : t1.Good e c := (kids_apart HG1.out (split_at _ _ Hsp.out.1)).1 |> fun h => by rw [hc]; exact h
          have HI : Hid (∀ wq, Below wr.heap.size wr wq → SetRel m w k n (t', v, b) f (.int .i64 (c : Int)) wq) := Lib.hid (fun wq hq => ⟨c, e, t1, m1, rfl, hset, hgc, fun _ _ => by omega, H1.out.grew hq, S1.out.trans (Stp.of_below hq), by omega, hfree, hmany⟩)
          clear hset hRm hc hgc hi hf9
          go_wp2_with (go_at_call 32; (with_reducible refine HS.out.mono ?_); rintro e w' ⟨rfl, rfl⟩)
          go_region
          all_goals
            go_wp2
            go_roundg f
            case rel => exact HI.out _ (Below.refl _ _).drew
            case measure => omega
end
end Go.Proofs.Yteoibolompiohaa
