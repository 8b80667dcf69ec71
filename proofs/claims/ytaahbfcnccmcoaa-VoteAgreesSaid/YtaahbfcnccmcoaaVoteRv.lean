/- The walk of the reference's vote. Conditions: as each theorem says. -/
import Derived.Test.YtaahbfcnccmcoaaVoteRp
import Derived.Test.YtaahbfcnccmcoaaQTail
import Derived.Lib.SliceRun
import Derived.Laws.MakeOwn
namespace Go.Proofs.Ytaahbfcnccmcoaa
open Go.RowKit

theorem bools_get (l : List Bool) (i : Nat) (h : i < l.length) : (bools l)[i]? = some (.bool l[i]) := by simp [bools, h]
theorem bools_set (l : List Bool) (i : Nat) (x : Bool) : (bools l).set i (.bool x) = bools (l.set i x) := by simp [bools, List.map_set]
theorem ints_get (l : List Int) (i : Nat) (h : i < l.length) : (ints l)[i]? = some (.int .i64 l[i]) := by simp [ints, h]
theorem ints_set (l : List Int) (i : Nat) (x : Int) : (ints l).set i (.int .i64 x) = ints (l.set i x) := by simp [ints, List.map_set]
theorem bals_get (l : List Bal) (i j : Nat) (h : i < l.length) (hj : j < 4) : (bals l)[i * 4 + j]? = (l[i].cells)[j]? := flat_get Bal.cells 4 (fun _ => rfl) l i j h hj
theorem bals_set (l : List Bal) (i : Nat) (h : i < l.length) (x : Bal) : ((((bals l).set (i * 4) (.int .i64 x.l)).set (i * 4 + 1) (.int .i64 x.e)).set (i * 4 + 2) (.int .i64 x.c)).set (i * 4 + 3) (.int .i64 x.p) = bals (l.set i x) := by
  have := setMany_flat Bal.cells 4 (fun _ => rfl) x l i h
  unfold bals
  rw [← this]
  rfl
theorem four_grown (w : World) (g o : Nat) (a b c d : Value) : w.grownBy ((((w.setCell ⟨g, o, none⟩ a).setCell ⟨g, o + 1, none⟩ b).setCell ⟨g, o + 2, none⟩ c).setCell ⟨g, o + 3, none⟩ d) (some g) :=
  (((grown_set w g o a).trans (grown_set _ g _ b)).trans (grown_set _ g _ c)).trans (grown_set _ g _ d)
theorem rp_setNow (r : Rp) (b : Bal) (vt vw vs vh : Value) : ((((rpCells r vt vw vs vh).set 7 (.int .i64 b.l)).set 8 (.int .i64 b.e)).set 9 (.int .i64 b.c)).set 10 (.int .i64 b.p) = rpCells { r with now := b } vt vw vs vh := rfl
theorem rp_get (r : Rp) (vt vw vs vh : Value) : (rpCells r vt vw vs vh)[0]? = some (.int .i64 r.me) ∧ (rpCells r vt vw vs vh)[1]? = some (.int .i64 r.nodes) ∧ (rpCells r vt vw vs vh)[6]? = some (.int .i64 r.round) ∧ (rpCells r vt vw vs vh)[7]? = some (.int .i64 r.now.l) ∧ (rpCells r vt vw vs vh)[8]? = some (.int .i64 r.now.e) ∧ (rpCells r vt vw vs vh)[9]? = some (.int .i64 r.now.c) ∧ (rpCells r vt vw vs vh)[10]? = some (.int .i64 r.now.p) ∧ (rpCells r vt vw vs vh)[11]? = some vt ∧ (rpCells r vt vw vs vh)[12]? = some vw ∧ (rpCells r vt vw vs vh)[13]? = some vs ∧ (rpCells r vt vw vs vh)[14]? = some vh := ⟨rfl, rfl, rfl, rfl, rfl, rfl, rfl, rfl, rfl, rfl, rfl⟩
theorem made_ints (n : Nat) : madeCells (Value.int .i64 0).cells n = (ints (List.replicate n 0)).toArray := by
  apply Array.ext
  · simp [madeCells, ints]
  · intro i h1 h2
    have e : i % 1 = 0 := Nat.mod_one i
    simp [madeCells, ints, Value.cells, e]
theorem run_make_ints (n : Nat) (h : n ≤ 7) (W : World) : (Instr.makeSlice 74 (.int .i64 (n : Int)) (.int .i64 (n : Int))).run Try.prog W = .ok (.slice (some ⟨W.heap.size, 0, none⟩) n n) (W.alloc (.cells (ints (List.replicate n 0)).toArray InT)) := by
  obtain ⟨i, hi, hz, hsz, hby⟩ := info_parts (P := Try.prog) (e := InT) (z := .int .i64 0) (size := 1) (bytes := 8) (by kernel_rfl)
  have := run_make (P := Try.prog) W 74 InT i (.int .i64 0) Try.underlying74 hi hz .i64 .i64 n n (by omega) (Int.le_refl _) (by rw [hby]; omega) (by omega)
  rw [this, hsz, Int.toNat_natCast, Nat.mul_one, made_ints]
theorem rp_setSt (r : Rp) (vt vw vs vh x y : Value) : ((rpCells r vt vw vs vh).set 13 x).set 14 y = rpCells r vt vw x y := rfl
section
variable {F : Nat → Prop} {g : Nat} {r : Rp} {bt bw : Nat} {vs vh : Value} {w : World}
theorem StAt.vals {n : Nat} {S H : List Int} (h : StAt F n S H vs vh w) : (vs = .slice none 0 0 ∧ vh = .slice none 0 0) ∨ ∃ bs bh, vs = sl bs n ∧ vh = sl bh n := by
  rcases h with ⟨h1, h2, _⟩ | ⟨bs, bh, h1, h2, _⟩
  · exact .inl ⟨h1, h2⟩
  · exact .inr ⟨bs, bh, h1, h2⟩
def RVoted (F : Nat → Prop) (g : Nat) (r : Rp) (bt bw : Nat) (w : World) (e : Ending) (w' : World) : Prop := e = .returned (.tuple #[]) ∧ (∃ bs bh, RpAt (Foot F w w') g r bt bw (sl bs r.nodes) (sl bh r.nodes) w') ∧ Apart F w w'
set_option maxRecDepth 100000 in
set_option maxHeartbeats 400000 in
theorem rvote_any (h : RpAt F g r bt bw vs vh w) (hf : r.fit) (b : Bal) : Calls Try.prog 52 #[ptrV g, balV b] w (RVoted F g (voteR r b) bt bw w) := by
  have hme := hf.me
  have htl := hf.told
  have hwl := hf.what
  have hml : r.me < r.what.length := by omega
  have hmt : r.me < r.told.length := by omega
  have hgt := blk_other h.head h.told (by decide)
  have hgw := blk_other h.head h.what (by decide)
  have htw := blk_other h.told h.what (by decide)
  have hgl := h.lt g h.fg
  have htl' := h.lt bt h.ft
  have hwl' := h.lt bw h.fw
  obtain ⟨g0, g1, g6, g7, g8, g9, g10, g11, g12, g13, g14⟩ := rp_get r (sl bt r.nodes) (sl bw r.nodes) vs vh
  have c0 := h.head.cell g0
  have c1 := h.head.cell g1
  have c7 := h.head.cell g7
  have c8 := h.head.cell g8
  have c9 := h.head.cell g9
  have c10 := h.head.cell g10
  have c11 := h.head.cell g11
  have c12 := h.head.cell g12
  have c13 := h.head.cell g13
  have t0 := h.told.cell (bools_get r.told r.me hmt)
  have b0 := h.what.cell (i := r.me * 4) ((bals_get r.what r.me 0 hml (by omega)).trans (by rfl : _ = some (.int .i64 (r.what[r.me]).l)))
  have b1 := h.what.cell ((bals_get r.what r.me 1 hml (by omega)).trans (by rfl : _ = some (.int .i64 (r.what[r.me]).e)))
  have b2 := h.what.cell ((bals_get r.what r.me 2 hml (by omega)).trans (by rfl : _ = some (.int .i64 (r.what[r.me]).c)))
  have b3 := h.what.cell ((bals_get r.what r.me 3 hml (by omega)).trans (by rfl : _ = some (.int .i64 (r.what[r.me]).p)))
  have fg : ∀ i, w.frozen? ⟨g, i, none⟩ = false := h.head.frozen
  have ft : ∀ i, w.frozen? ⟨bt, i, none⟩ = false := h.told.frozen
  have fw : ∀ i, w.frozen? ⟨bw, i, none⟩ = false := h.what.frozen
  have HH := Lib.hid h
  have hmeI : (r.me : Int) < (r.nodes : Int) := by omega
  clear h g0 g1 g6 g7 g8 g9 g10 g11 g12 g13 g14
  unfold ptrV balV
  unfold sl at c11 c12
  generalize r.told[r.me] = tv at *
  generalize r.what[r.me] = wv at *
  go_enter Try.func52, Try.ntmps52
  go_wp2_with (fail)
  go_region
  go_wp2_with (fail)
  go_region
  go_upto_region 4 with (fail)
  have hm1 := (((HH.out.head.set 7 (.int .i64 b.l)).set 8 (.int .i64 b.e)).set 9 (.int .i64 b.c)).set 10 (.int .i64 b.p)
  rw [rp_setNow] at hm1
  have hn1 := four_grown w g 7 (.int .i64 b.l) (.int .i64 b.e) (.int .i64 b.c) (.int .i64 b.p)
  have ho1 := (HH.out.told.grown hn1 (fun e => hgt (Option.some.inj e).symm)).set r.me (.bool true)
  rw [bools_set] at ho1
  have hn2 := grown_set ((((w.setCell ⟨g, 7, none⟩ (.int .i64 b.l)).setCell ⟨g, 8, none⟩ (.int .i64 b.e)).setCell ⟨g, 9, none⟩ (.int .i64 b.c)).setCell ⟨g, 10, none⟩ (.int .i64 b.p)) bt r.me (.bool true)
  have hp1 := (((((HH.out.what.grown hn1 (fun e => hgw (Option.some.inj e).symm)).grown hn2 (fun e => htw (Option.some.inj e).symm)).set (r.me * 4) (.int .i64 b.l)).set (r.me * 4 + 1) (.int .i64 b.e)).set (r.me * 4 + 2) (.int .i64 b.c)).set (r.me * 4 + 3) (.int .i64 b.p)
  rw [bals_set r.what r.me hml b] at hp1
  have hn3 := four_grown (((((w.setCell ⟨g, 7, none⟩ (.int .i64 b.l)).setCell ⟨g, 8, none⟩ (.int .i64 b.e)).setCell ⟨g, 9, none⟩ (.int .i64 b.c)).setCell ⟨g, 10, none⟩ (.int .i64 b.p)).setCell ⟨bt, r.me, none⟩ (.bool true)) bw (r.me * 4) (.int .i64 b.l) (.int .i64 b.e) (.int .i64 b.c) (.int .i64 b.p)
  have hm3 := (hm1.grown hn2 (fun e => hgt (Option.some.inj e))).grown hn3 (fun e => hgw (Option.some.inj e))
  have ho3 := ho1.grown hn3 (fun e => htw (Option.some.inj e))
  have hA : Apart (fun i => i = g ∨ i = bt ∨ i = bw) w _ := ((Apart.of_grown hn1 (fun k hk => .inl (.inl (Option.some.inj hk).symm))).trans (Apart.of_grown hn2 (fun k hk => .inl (.inr (.inl (Option.some.inj hk).symm)))) (fun i hi => .inl hi)).trans (Apart.of_grown hn3 (fun k hk => .inl (.inr (.inr (Option.some.inj hk).symm)))) (fun i hi => .inl hi)
  have hst := HH.out.st.apart hA (fun k _ _ hk hG => by
    obtain ⟨cs, hk⟩ := hk
    rcases hG with e | e | e
    · exact blk_other hk HH.out.head (by decide) e
    · exact blk_other hk HH.out.told (by decide) e
    · exact blk_other hk HH.out.what (by decide) e)
  clear hm1 hn1 ho1 hn2 hn3 t0 b0 b1 b2 b3 c0 c1 c7 c8 c9 c10 c11 c12 c13 fg ft fw
  generalize ((((((((w.setCell ⟨g, 7, none⟩ (.int .i64 b.l)).setCell ⟨g, 8, none⟩ (.int .i64 b.e)).setCell ⟨g, 9, none⟩ (.int .i64 b.c)).setCell ⟨g, 10, none⟩ (.int .i64 b.p)).setCell ⟨bt, r.me, none⟩ (.bool true)).setCell ⟨bw, r.me * 4, none⟩ (.int .i64 b.l)).setCell ⟨bw, r.me * 4 + 1, none⟩ (.int .i64 b.e)).setCell ⟨bw, r.me * 4 + 2, none⟩ (.int .i64 b.c)).setCell ⟨bw, r.me * 4 + 3, none⟩ (.int .i64 b.p) = x at *
  have hB4 := ((alloc_below x (.cells #[.int .i64 b.l, .int .i64 b.e, .int .i64 b.c, .int .i64 b.p] RbT)).drew).drew
  have hm4 := hm3.grew hB4
  have ho4 := ho3.grew hB4
  have hp4 := hp1.grew hB4
  have hs4 := hst.apart (Apart.of_below (F := fun _ => False) hB4) (fun _ _ _ _ h => h)
  have hA4 := hA.trans (Apart.of_below (F := fun _ => False) hB4) (fun _ h => h.elim)
  have hsz := hB4.size
  have hsw := hA.size
  clear hm3 ho3 hp1 hst hA hB4
  generalize (x.alloc (.cells #[.int .i64 b.l, .int .i64 b.e, .int .i64 b.c, .int .i64 b.p] RbT)).drew.drew = w4 at *
  have hAF : Apart F w w4 := hA4.mono (fun i hi => by
    rcases hi with e | e | e
    · rw [e]; exact HH.out.fg
    · rw [e]; exact HH.out.ft
    · rw [e]; exact HH.out.fw)
  have d1 := hm4.cell (rp_get _ _ _ _ _).2.1
  have d13 := hm4.cell (rp_get _ _ _ _ _).2.2.2.2.2.2.2.2.2.1
  have d14 := hm4.cell (rp_get _ _ _ _ _).2.2.2.2.2.2.2.2.2.2
  have fg4 : ∀ i, w4.frozen? ⟨g, i, none⟩ = false := hm4.frozen
  have hgl4 := hm4.lt
  have q22 : ∀ (W : World) (a : Option Addr) (n c n' c' : Nat), (binOp .eql 74 (.slice a n c) (.slice none n' c')).run Try.prog W = .ok (.bool a.isNone) W := fun W a n c n' c' => Lib.run_eql_slice_nil W _ _ a n c n' c' Try.underlying74
  have HA := Lib.hid hAF
  have HM4 := Lib.hid hm4
  have HO4 := Lib.hid ho4
  have HP4 := Lib.hid hp4
  clear hA4 hAF hm4 ho4 hp4
  rcases hs4 with ⟨rfl, rfl, hS, hH⟩ | ⟨bs, bh, rfl, rfl, hne, hbs, hbh, hS, hH⟩
  · have hmk := run_make_ints r.nodes hf.n7
    have HF : Hid (RVoted F g (voteR r b) bt bw w (.returned (.tuple #[])) ((((w4.setCell ⟨g, 13, none⟩ (sl w4.heap.size r.nodes)).setCell ⟨g, 14, none⟩ (sl (w4.heap.size + 1) r.nodes)).alloc (.cells (ints (List.replicate r.nodes 0)).toArray InT)).alloc (.cells (ints (List.replicate r.nodes 0)).toArray InT))) := by
      have hz : ((w4.setCell ⟨g, 13, none⟩ (sl w4.heap.size r.nodes)).setCell ⟨g, 14, none⟩ (sl (w4.heap.size + 1) r.nodes)).heap.size = w4.heap.size := sets_size g [sl w4.heap.size r.nodes, sl (w4.heap.size + 1) r.nodes] w4 13
      have hg2 : w4.grownBy ((w4.setCell ⟨g, 13, none⟩ (sl w4.heap.size r.nodes)).setCell ⟨g, 14, none⟩ (sl (w4.heap.size + 1) r.nodes)) (some g) := (grown_set w4 g 13 _).trans (grown_set _ g 14 _)
      have hm := (HM4.out.set 13 (sl w4.heap.size r.nodes)).set 14 (sl (w4.heap.size + 1) r.nodes)
      rw [rp_setSt] at hm
      have ho := HO4.out.grown hg2 (fun e => hgt (Option.some.inj e).symm)
      have hp := HP4.out.grown hg2 (fun e => hgw (Option.some.inj e).symm)
      generalize (w4.setCell ⟨g, 13, none⟩ (sl w4.heap.size r.nodes)).setCell ⟨g, 14, none⟩ (sl (w4.heap.size + 1) r.nodes) = z at *
      have a1 := alloc_below z (.cells (ints (List.replicate r.nodes 0)).toArray InT)
      have a2 := alloc_below (z.alloc (.cells (ints (List.replicate r.nodes 0)).toArray InT)) (.cells (ints (List.replicate r.nodes 0)).toArray InT)
      have k1 := (BlkAt.alloc_new z (ints (List.replicate r.nodes 0)) InT).grew a2
      have k2 := BlkAt.alloc_new (z.alloc (.cells (ints (List.replicate r.nodes 0)).toArray InT)) (ints (List.replicate r.nodes 0)) InT
      rw [hz] at k1
      simp only [World.size_alloc, hz] at k2
      have hA2 : Apart F w _ := ((HA.out.trans (Apart.of_grown (F := F) hg2 (fun k hk => .inl (by rw [← Option.some.inj hk]; exact HH.out.fg))) (fun i hi => .inl hi)).trans (Apart.of_below (F := F) a1) (fun i hi => .inl hi)).trans (Apart.of_below (F := F) a2) (fun i hi => .inl hi)
      refine Lib.hid ⟨rfl, ⟨w4.heap.size, w4.heap.size + 1, (hm.grew a1).grew a2, (ho.grew a1).grew a2, (hp.grew a1).grew a2, .inr ⟨_, _, rfl, rfl, by omega, .inr ⟨by omega, k1.lt⟩, .inr ⟨by omega, k2.lt⟩, by show BlkAt _ InT (ints r.state) _; rw [hS]; exact k1, by show BlkAt _ InT (ints r.whom) _; rw [hH]; exact k2⟩, .inl HH.out.fg, .inl HH.out.ft, .inl HH.out.fw, fun i hi => ?_⟩, hA2⟩
      rcases hi with hi | hi
      · have := HH.out.lt i hi
        have := hA2.size
        omega
      · exact hi.2
    clear hS hH
    simp only at d1 d13 d14
    go_wp2_with (fail)
    go_end0
    exact HF.out
  · have HF : Hid (RVoted F g (voteR r b) bt bw w (.returned (.tuple #[])) w4) := by
      refine Lib.hid ⟨rfl, ⟨bs, bh, HM4.out, HO4.out, HP4.out, .inr ⟨bs, bh, rfl, rfl, hne, .inl hbs, .inl hbh, hS, hH⟩, .inl HH.out.fg, .inl HH.out.ft, .inl HH.out.fw, fun i hi => ?_⟩, HA.out⟩
      rcases hi with hi | hi
      · have := HH.out.lt i hi; omega
      · exact hi.2
    clear hS hH
    unfold sl at d13 d14
    simp only at d1 d13 d14
    go_wp2_with (fail)
    go_end0
    exact HF.out
end
end Go.Proofs.Ytaahbfcnccmcoaa
