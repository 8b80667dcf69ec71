/- The walks of the reference's Begin, New, better and Vote. Conditions: as each theorem says. -/
import Derived.Test.YtaahbfcnccmcoaaVoteRf
import Derived.Test.YtaahbfcnccmcoaaVoteC
import Derived.Test.YtaahbfcnccmcoaaHistE
namespace Go.Proofs.Ytaahbfcnccmcoaa
open Go.RowKit

section
variable {F : Nat → Prop} {g : Nat} {r : Rp} {w : World}
set_option maxRecDepth 100000 in
set_option maxHeartbeats 400000 in
theorem rbegin_any (h : RpIn F g r w) (hf : r.fit) (hr : -4611686018427387904 ≤ r.round ∧ r.round ≤ 4611686018427387904) : Calls Try.prog 33 #[ptrV g] w (RDone F g (beginR r) (.tuple #[]) w) := by
  obtain ⟨bt, bw, bs, bh, h⟩ := h
  have c6 := h.head.cell (i := 6) (v := .int .i64 r.round) rfl
  have hF := h.lt
  have hfg := h.fg
  have HV := Lib.hid (rfresh_any h.head h.st hfg hF hf (r.round + 1))
  have hfit := freshR_fit r hf (r.round + 1)
  obtain ⟨hr0, hr1⟩ := hr
  clear h
  unfold ptrV at *
  go_enter Try.func33, Try.ntmps33
  go_wp2_with (fail)
  refine HV.out.mono ?_
  rintro e w1 ⟨rfl, ⟨bt1, bw1, bs1, bh1, hR⟩, hA⟩
  clear c6 HV
  have c1 := hR.head.cell (i := 1) (v := .int .i64 r.nodes) rfl
  have c13 := hR.head.cell (i := 13) (v := sl bs1 r.nodes) rfl
  have c14 := hR.head.cell (i := 14) (v := sl bh1 r.nodes) rfl
  have fg : ∀ i, w1.frozen? ⟨g, i, none⟩ = false := hR.head.frozen
  have hgl := hR.head.lt
  have mk := run_make_ints r.nodes hf.n7
  have HR := Lib.hid hR
  have HA := Lib.hid hA
  clear hR hA
  unfold sl at c13 c14
  go_wp2_with (fail)
  go_end0
  have hm := (HR.out.head.set 13 (sl w1.heap.size r.nodes)).set 14 (sl (w1.heap.size + 1) r.nodes)
  rw [rp_setSt] at hm
  have hg2 : w1.grownBy ((w1.setCell ⟨g, 13, none⟩ (sl w1.heap.size r.nodes)).setCell ⟨g, 14, none⟩ (sl (w1.heap.size + 1) r.nodes)) (some g) := (grown_set w1 g 13 _).trans (grown_set _ g 14 _)
  have hz : ((w1.setCell ⟨g, 13, none⟩ (sl w1.heap.size r.nodes)).setCell ⟨g, 14, none⟩ (sl (w1.heap.size + 1) r.nodes)).heap.size = w1.heap.size := by simp
  have ho := HR.out.told.grown hg2 (fun e => blk_other HR.out.head HR.out.told (by decide) (Option.some.inj e).symm)
  have hp := HR.out.what.grown hg2 (fun e => blk_other HR.out.head HR.out.what (by decide) (Option.some.inj e).symm)
  unfold sl at hm hg2 hz ho hp
  clear c1 c13 c14 fg mk
  generalize (w1.setCell ⟨g, 13, none⟩ (.slice (some ⟨w1.heap.size, 0, none⟩) r.nodes r.nodes)).setCell ⟨g, 14, none⟩ (.slice (some ⟨w1.heap.size + 1, 0, none⟩) r.nodes r.nodes) = z at *
  have a1 := alloc_below z (.cells (ints (List.replicate r.nodes 0)).toArray InT)
  have a2 := alloc_below (z.alloc (.cells (ints (List.replicate r.nodes 0)).toArray InT)) (.cells (ints (List.replicate r.nodes 0)).toArray InT)
  have k1 := (BlkAt.alloc_new z (ints (List.replicate r.nodes 0)) InT).grew a2
  have k2 := BlkAt.alloc_new (z.alloc (.cells (ints (List.replicate r.nodes 0)).toArray InT)) (ints (List.replicate r.nodes 0)) InT
  rw [hz] at k1
  simp only [World.size_alloc, hz] at k2
  have hws := HA.out.size
  have hA2 : Apart F w _ := ((HA.out.trans (Apart.of_grown (F := F) hg2 (fun k hk => .inl (by rw [← Option.some.inj hk]; exact hfg))) (fun i hi => .inl hi)).trans (Apart.of_below (F := F) a1) (fun i hi => .inl hi)).trans (Apart.of_below (F := F) a2) (fun i hi => .inl hi)
  have hup : ∀ i, Foot F w w1 i → Foot F w ((z.alloc (.cells (ints (List.replicate r.nodes 0)).toArray InT)).alloc (.cells (ints (List.replicate r.nodes 0)).toArray InT)) i := by
    intro i hi
    rcases hi with hi | hi
    · exact .inl hi
    · exact .inr ⟨hi.1, by simp only [World.size_alloc, hz]; omega⟩
  refine ⟨rfl, ⟨bt1, bw1, w1.heap.size, w1.heap.size + 1, (hm.grew a1).grew a2, (ho.grew a1).grew a2, (hp.grew a1).grew a2, .inr ⟨_, _, rfl, rfl, by omega, .inr ⟨by omega, k1.lt⟩, .inr ⟨by omega, k2.lt⟩, k1, k2⟩, hup _ HR.out.fg, hup _ HR.out.ft, hup _ HR.out.fw, fun i hi => ?_⟩, hA2⟩
  rcases hi with hi | hi
  · have := hF i hi
    have := hA2.size
    omega
  · exact hi.2
theorem beginR_fit (r : Rp) (hf : r.fit) : (beginR r).fit := by
  have h := freshR_fit r hf (r.round + 1)
  exact ⟨h.n1, h.n7, h.me, h.told, h.what, by simp [beginR]; rfl, by simp [beginR]; rfl⟩
def rawR (me nodes : Nat) (own : Bal) : Rp := ⟨me, nodes, own, 0, zeroBal, List.replicate nodes false, List.replicate nodes zeroBal, List.replicate nodes 0, List.replicate nodes 0⟩
theorem rawR_fit (me nodes : Nat) (own : Bal) (h1 : 1 ≤ nodes) (h7 : nodes ≤ 7) (hm : me < nodes) : (rawR me nodes own).fit := ⟨h1, h7, hm, by simp [rawR], by simp [rawR], by simp [rawR], by simp [rawR]⟩
def newR (me nodes : Nat) (own : Bal) : Rp := freshR (rawR me nodes own) 0
def nilS : Value := .slice none 0 0
theorem rawR_at (w : World) (o : Obj) (me nodes : Nat) (own : Bal) : BlkAt (w.heap.size + 1) RpT (rpCells (rawR me nodes own) nilS nilS nilS nilS) ((w.alloc o).alloc (.cells (rpCells (rawR me nodes own) nilS nilS nilS nilS).toArray RpT)) := by
  have h := BlkAt.alloc_new (w.alloc o) (rpCells (rawR me nodes own) nilS nilS nilS nilS) RpT
  have e : (w.alloc o).heap.size = w.heap.size + 1 := by simp
  rw [e] at h
  exact h
/-- A reference's poll that is the call's own. -/
def RNew (r : Rp) (w : World) (e : Ending) (w' : World) : Prop := ∃ g F, e = .returned (.tuple #[ptrV g, .int .i64 0]) ∧ RpIn F g r w' ∧ (∀ i, F i → w.heap.size ≤ i) ∧ Below w.heap.size w w'
set_option maxRecDepth 100000 in
set_option maxHeartbeats 800000 in
theorem rnew_any (me nodes : Nat) (z : Int × Int) (ep : Int) (h1 : 1 ≤ nodes) (h7 : nodes ≤ 7) (hm : me < nodes) (he : 0 ≤ ep) (hz1 : 0 ≤ z.1) (hz2 : 0 ≤ z.2) (w : World) :
    Calls Try.prog 31 #[.int .i64 (me : Int), .int .i64 (nodes : Int), .agg #[.int .i64 z.1, .int .i64 z.2], .int .i64 ep] w (RNew (newR me nodes ⟨me, z.1, z.2, ep⟩) w) := by
  have HFr : Hid (∀ W, BlkAt (w.heap.size + 1) RpT (rpCells (rawR me nodes ⟨me, z.1, z.2, ep⟩) nilS nilS nilS nilS) W → Calls Try.prog 50 #[ptrV (w.heap.size + 1), .int .i64 0] W (RDone (fun i => i = w.heap.size + 1) (w.heap.size + 1) (newR me nodes ⟨me, z.1, z.2, ep⟩) (.tuple #[]) W)) := Lib.hid (fun W hW => rfresh_any (F := fun i => i = w.heap.size + 1) hW (.inl ⟨rfl, rfl, rfl, rfl⟩) rfl (fun i hi => by rw [hi]; exact hW.lt) (rawR_fit me nodes _ h1 h7 hm) 0)
  unfold ptrV at HFr
  go_enter Try.func31, Try.ntmps31
  go_wp2_with (fail)
  all_goals
    have HRa := rawR_at w (.cells #[.int .i64 z.1, .int .i64 z.2] 32) me nodes ⟨me, z.1, z.2, ep⟩
    refine (HFr.out _ (by exact HRa)).mono ?_
    rintro e w1 ⟨rfl, hP1, hG1⟩
    have hB := Lib.hid ((((Below.refl _ w).alloc (Nat.le_refl _) (.cells #[.int .i64 z.1, .int .i64 z.2] 32)).alloc (by simp) (.cells (rpCells (rawR me nodes ⟨me, z.1, z.2, ep⟩) nilS nilS nilS nilS).toArray RpT)).trans (hG1.below (by simp; omega) (fun i hi => by omega)))
    have HP1 := Lib.hid hP1
    clear hP1 hG1 HRa
    go_wp2
    go_ret2
    refine ⟨w.heap.size + 1, _, rfl, HP1.out, fun i hi => ?_, hB.out⟩
    rcases hi with hi | hi
    · omega
    · have := hi.1
      simp at this
      omega
end
set_option maxRecDepth 100000 in
set_option maxHeartbeats 800000 in
theorem rnew_bad (me nodes : Int) (z : Int × Int) (ep : Int) (hb : badNew me nodes z ep) (w : World) :
    Calls Try.prog 31 #[.int .i64 me, .int .i64 nodes, .agg #[.int .i64 z.1, .int .i64 z.2], .int .i64 ep] w fun e w' => e = .returned (.tuple #[.pointer none, .int .i64 1]) ∧ Below w.heap.size w w' := by
  unfold badNew at hb
  have HB := Lib.hid (alloc_below w)
  by_cases h1 : nodes < 1
  · as_aux_lemma =>
    clear hb
    go_enter Try.func31, Try.ntmps31
    go_wp2
    go_ret2
    exact ⟨rfl, HB.out _⟩
  by_cases h2 : 7 < nodes
  · as_aux_lemma =>
    clear hb
    go_enter Try.func31, Try.ntmps31
    go_wp2
    go_ret2
    exact ⟨rfl, HB.out _⟩
  by_cases h3 : me < 0
  · as_aux_lemma =>
    clear hb
    go_enter Try.func31, Try.ntmps31
    go_wp2
    go_ret2
    exact ⟨rfl, HB.out _⟩
  by_cases h4 : nodes ≤ me
  · as_aux_lemma =>
    clear hb
    go_enter Try.func31, Try.ntmps31
    go_wp2
    go_ret2
    exact ⟨rfl, HB.out _⟩
  have hb2 : ep < 0 ∨ z.1 < 0 ∨ z.2 < 0 := by omega
  as_aux_lemma =>
  clear hb
  rcases hb2 with h5 | h5 | h5
  all_goals
    go_enter Try.func31, Try.ntmps31
    go_wp2
    all_goals
      go_ret2
      exact ⟨rfl, HB.out _⟩
set_option maxRecDepth 100000 in
set_option maxHeartbeats 400000 in
theorem rbetter_any (a b : Bal) (w : World) :
    Calls Try.prog 51 #[balV a, balV b] w fun e w' => e = .returned (.bool (betterB a b)) ∧ Below w.heap.size w w' := by
  have HB : Hid (∀ o1 o2, Below w.heap.size w ((w.alloc o1).alloc o2)) := fun o1 o2 => ((Below.refl _ w).alloc (Nat.le_refl _) _).alloc (by simp) _
  have HLs := Lib.hid (fun W => refless_any (b.e, b.c) (a.e, a.c) W)
  unfold zxidV at HLs
  unfold betterB balV
  by_cases h0 : a.p = b.p
  · rw [if_pos h0]
    have b0 : (a.p == b.p) = true := by simpa using h0
    have b0' : (a.p != b.p) = false := by simpa using h0
    rcases zx_cases (a.e, a.c) (b.e, b.c) with ⟨hz, q0, q1⟩ | ⟨hz, q0, q1⟩ | ⟨hz, q0⟩
    · as_aux_lemma =>
      rw [if_pos hz]
      clear h0 hz
      simp only at q0 q1
      go_enter Try.func51, Try.ntmps51
      go_wp2
      go_ret
      exact ⟨rfl, HB.out _ _⟩
    all_goals
      as_aux_lemma =>
      rw [if_neg hz]
      clear h0 hz
      simp only at q0
      try simp only at q1
      go_enter Try.func51, Try.ntmps51
      go_wp2_with (fail)
      refine (HLs.out _).mono ?_
      rintro e w3 ⟨rfl, hb3⟩
      go_wp2
      go_ret
      exact ⟨rfl, (HB.out _ _).trans (hb3.mono (by simp; omega))⟩
  · as_aux_lemma =>
    rw [if_neg h0]
    have b0 : (a.p == b.p) = false := by simpa using h0
    have b0' : (a.p != b.p) = true := by simpa using h0
    clear h0
    go_enter Try.func51, Try.ntmps51
    go_wp2
    go_ret
    exact ⟨rfl, HB.out _ _⟩
end Go.Proofs.Ytaahbfcnccmcoaa
