/- The walks of the reference's fresh and Begin. Conditions: as each theorem says. -/
import Derived.Test.YtaahbfcnccmcoaaVoteRv
namespace Go.Proofs.Ytaahbfcnccmcoaa
open Go.RowKit

theorem made_bools (n : Nat) : madeCells (Value.bool false).cells n = (bools (List.replicate n false)).toArray := by
  apply Array.ext
  · simp [madeCells, bools]
  · intro i h1 h2
    have e : i % 1 = 0 := Nat.mod_one i
    simp [madeCells, bools, Value.cells, e]
theorem run_make_bools (n : Nat) (h : n ≤ 7) (W : World) : (Instr.makeSlice 111 (.int .i64 (n : Int)) (.int .i64 (n : Int))).run Try.prog W = .ok (.slice (some ⟨W.heap.size, 0, none⟩) n n) (W.alloc (.cells (bools (List.replicate n false)).toArray BoT)) := by
  obtain ⟨i, hi, hz, hsz, hby⟩ := info_parts (P := Try.prog) (e := BoT) (z := .bool false) (size := 1) (bytes := 1) (by kernel_rfl)
  have := run_make (P := Try.prog) W 111 BoT i (.bool false) Try.underlying111 hi hz .i64 .i64 n n (by omega) (Int.le_refl _) (by rw [hby]; omega) (by omega)
  rw [this, hsz, Int.toNat_natCast, Nat.mul_one, made_bools]
theorem made_bals (n : Nat) (h : n ≤ 7) : madeCells (balV zeroBal).cells (n * 4) = (bals (List.replicate n zeroBal)).toArray := by
  have k0 : madeCells (balV zeroBal).cells (0 * 4) = (bals (List.replicate 0 zeroBal)).toArray := by kernel_rfl
  have k1 : madeCells (balV zeroBal).cells (1 * 4) = (bals (List.replicate 1 zeroBal)).toArray := by kernel_rfl
  have k2 : madeCells (balV zeroBal).cells (2 * 4) = (bals (List.replicate 2 zeroBal)).toArray := by kernel_rfl
  have k3 : madeCells (balV zeroBal).cells (3 * 4) = (bals (List.replicate 3 zeroBal)).toArray := by kernel_rfl
  have k4 : madeCells (balV zeroBal).cells (4 * 4) = (bals (List.replicate 4 zeroBal)).toArray := by kernel_rfl
  have k5 : madeCells (balV zeroBal).cells (5 * 4) = (bals (List.replicate 5 zeroBal)).toArray := by kernel_rfl
  have k6 : madeCells (balV zeroBal).cells (6 * 4) = (bals (List.replicate 6 zeroBal)).toArray := by kernel_rfl
  have k7 : madeCells (balV zeroBal).cells (7 * 4) = (bals (List.replicate 7 zeroBal)).toArray := by kernel_rfl
  have : n = 0 ∨ n = 1 ∨ n = 2 ∨ n = 3 ∨ n = 4 ∨ n = 5 ∨ n = 6 ∨ n = 7 := by omega
  rcases this with e | e | e | e | e | e | e | e <;> subst e <;> assumption
theorem run_make_bals (n : Nat) (h : n ≤ 7) (W : World) : (Instr.makeSlice 112 (.int .i64 (n : Int)) (.int .i64 (n : Int))).run Try.prog W = .ok (.slice (some ⟨W.heap.size, 0, none⟩) n n) (W.alloc (.cells (bals (List.replicate n zeroBal)).toArray RbT)) := by
  obtain ⟨i, hi, hz, hsz, hby⟩ := info_parts (P := Try.prog) (e := RbT) (z := balV zeroBal) (size := 4) (bytes := 32) (by kernel_rfl)
  have := run_make (P := Try.prog) W 112 RbT i (balV zeroBal) Try.underlying112 hi hz .i64 .i64 n n (by omega) (Int.le_refl _) (by rw [hby]; omega) (by omega)
  rw [this, hsz, Int.toNat_natCast, made_bals n h]
theorem RpAt.mono {F G : Nat → Prop} {g : Nat} {r : Rp} {bt bw : Nat} {vs vh : Value} {w : World} (h : RpAt F g r bt bw vs vh w) (hFG : ∀ i, F i → G i) (hG : ∀ i, G i → i < w.heap.size) : RpAt G g r bt bw vs vh w := by
  refine ⟨h.head, h.told, h.what, ?_, hFG _ h.fg, hFG _ h.ft, hFG _ h.fw, hG⟩
  rcases h.st with hs | ⟨bs, bh, h1, h2, h3, h4, h5, h6, h7⟩
  · exact .inl hs
  · exact .inr ⟨bs, bh, h1, h2, h3, hFG _ h4, hFG _ h5, h6, h7⟩
/-- The reference's poll behind a call that may have laid new blocks. -/
def RDone (F : Nat → Prop) (g : Nat) (r : Rp) (v : Value) (w : World) (e : Ending) (w' : World) : Prop := e = .returned v ∧ RpIn (Foot F w w') g r w' ∧ Apart F w w'
theorem rp_setRound (r : Rp) (n : Int) (vt vw vs vh x y : Value) : (((rpCells r vt vw vs vh).set 6 (.int .i64 n)).set 11 x).set 12 y = rpCells { r with round := n } x y vs vh := rfl
theorem fresh_fitR (r : Rp) (hf : r.fit) (n : Int) : ({ r with round := n, told := List.replicate r.nodes false, what := List.replicate r.nodes zeroBal } : Rp).fit := ⟨hf.n1, hf.n7, hf.me, by simp, by simp, hf.state, hf.whom⟩
theorem vote_fitR (r : Rp) (hf : r.fit) (b : Bal) : (voteR r b).fit := ⟨hf.n1, hf.n7, hf.me, by simp [voteR, hf.told], by simp [voteR, hf.what], hf.state, hf.whom⟩
theorem freshR_fit (r : Rp) (hf : r.fit) (n : Int) : (freshR r n).fit := vote_fitR _ (fresh_fitR r hf n) _
section
variable {F : Nat → Prop} {g : Nat} {r : Rp} {vt vw vs vh : Value} {w : World}
set_option maxRecDepth 100000 in
set_option maxHeartbeats 400000 in
theorem rfresh_any (h : BlkAt g RpT (rpCells r vt vw vs vh) w) (hst : StAt F r.nodes r.state r.whom vs vh w) (hfg : F g) (hF : ∀ i, F i → i < w.heap.size) (hf : r.fit) (n : Int) : Calls Try.prog 50 #[ptrV g, .int .i64 n] w (RDone F g (freshR r n) (.tuple #[]) w) := by
  have hgl := hF g hfg
  have g1 := (rp_get r vt vw vs vh).2.1
  have g6 := (rp_get r vt vw vs vh).2.2.1
  have c1 := h.cell g1
  have c6 := h.cell g6
  have c2 := h.cell (i := 2) (v := .int .i64 r.own.l) rfl
  have c3 := h.cell (i := 3) (v := .int .i64 r.own.e) rfl
  have c4 := h.cell (i := 4) (v := .int .i64 r.own.c) rfl
  have c5 := h.cell (i := 5) (v := .int .i64 r.own.p) rfl
  have c11 := h.cell (i := 11) (v := vt) rfl
  have c12 := h.cell (i := 12) (v := vw) rfl
  have fg : ∀ i, w.frozen? ⟨g, i, none⟩ = false := h.frozen
  have m1 := run_make_bools r.nodes hf.n7
  have m2 := run_make_bals r.nodes hf.n7
  have HH := Lib.hid h
  have HS := Lib.hid hst
  have HV : Hid (∀ (G : Nat → Prop) W b1 b2, RpAt G g { r with round := n, told := List.replicate r.nodes false, what := List.replicate r.nodes zeroBal } b1 b2 vs vh W → Calls Try.prog 52 #[ptrV g, balV r.own] W (RVoted G g (freshR r n) b1 b2 W)) := Lib.hid (fun G W b1 b2 hW => rvote_any hW (fresh_fitR r hf n) r.own)
  clear h hst g1 g6
  unfold ptrV balV at HV
  unfold ptrV
  go_enter Try.func50, Try.ntmps50
  go_wp2_with (fail)
  have hm := ((HH.out.set 6 (.int .i64 n)).set 11 (sl w.heap.size r.nodes)).set 12 (sl (w.heap.size + 1) r.nodes)
  rw [rp_setRound] at hm
  have hg2 : w.grownBy (((w.setCell ⟨g, 6, none⟩ (.int .i64 n)).setCell ⟨g, 11, none⟩ (sl w.heap.size r.nodes)).setCell ⟨g, 12, none⟩ (sl (w.heap.size + 1) r.nodes)) (some g) := ((grown_set w g 6 _).trans (grown_set _ g 11 _)).trans (grown_set _ g 12 _)
  have hz : (((w.setCell ⟨g, 6, none⟩ (.int .i64 n)).setCell ⟨g, 11, none⟩ (sl w.heap.size r.nodes)).setCell ⟨g, 12, none⟩ (sl (w.heap.size + 1) r.nodes)).heap.size = w.heap.size := by simp
  unfold sl at hm hg2 hz
  clear c1 c6 c2 c3 c4 c5 c11 c12 fg m1 m2
  generalize ((w.setCell ⟨g, 6, none⟩ (.int .i64 n)).setCell ⟨g, 11, none⟩ (.slice (some ⟨w.heap.size, 0, none⟩) r.nodes r.nodes)).setCell ⟨g, 12, none⟩ (.slice (some ⟨w.heap.size + 1, 0, none⟩) r.nodes r.nodes) = z at *
  have a1 := alloc_below z (.cells (bools (List.replicate r.nodes false)).toArray BoT)
  have a2 := alloc_below (z.alloc (.cells (bools (List.replicate r.nodes false)).toArray BoT)) (.cells (bals (List.replicate r.nodes zeroBal)).toArray RbT)
  have k1 := (BlkAt.alloc_new z (bools (List.replicate r.nodes false)) BoT).grew a2
  have k2 := BlkAt.alloc_new (z.alloc (.cells (bools (List.replicate r.nodes false)).toArray BoT)) (bals (List.replicate r.nodes zeroBal)) RbT
  rw [hz] at k1
  simp only [World.size_alloc, hz] at k2
  have hA1 : Apart F w z := Apart.of_grown hg2 (fun k hk => .inl (by rw [← Option.some.inj hk]; exact hfg))
  have hA2 : Apart F w ((z.alloc (.cells (bools (List.replicate r.nodes false)).toArray BoT)).alloc (.cells (bals (List.replicate r.nodes zeroBal)).toArray RbT)) := (hA1.trans (Apart.of_below (F := F) a1) (fun i hi => .inl hi)).trans (Apart.of_below (F := F) a2) (fun i hi => .inl hi)
  have hst1 := (HS.out.apart (G := fun i => i = g) (Apart.of_grown hg2 (fun k hk => .inl (Option.some.inj hk).symm)) (fun k _ _ hk hG => by obtain ⟨cs, hk⟩ := hk; exact blk_other hk HH.out (by decide) hG))
  have hst2 := (hst1.apart (Apart.of_below (F := fun _ => False) a1) (fun _ _ _ _ h => h)).apart (Apart.of_below (F := fun _ => False) a2) (fun _ _ _ _ h => h)
  have hm2 := (hm.grew a1).grew a2
  have hs2 : ((z.alloc (.cells (bools (List.replicate r.nodes false)).toArray BoT)).alloc (.cells (bals (List.replicate r.nodes zeroBal)).toArray RbT)).heap.size = w.heap.size + 2 := by simp [hz]
  clear hm hg2 hA1 a1 a2 hst1
  generalize (z.alloc (.cells (bools (List.replicate r.nodes false)).toArray BoT)).alloc (.cells (bals (List.replicate r.nodes zeroBal)).toArray RbT) = y at *
  have hR : RpAt F g { r with round := n, told := List.replicate r.nodes false, what := List.replicate r.nodes zeroBal } w.heap.size (w.heap.size + 1) vs vh y → True := fun _ => trivial
  have hRp : RpAt (fun i => F i ∨ i = w.heap.size ∨ i = w.heap.size + 1) g { r with round := n, told := List.replicate r.nodes false, what := List.replicate r.nodes zeroBal } w.heap.size (w.heap.size + 1) vs vh y := by
    refine ⟨hm2, k1, k2, ?_, .inl hfg, .inr (.inl rfl), .inr (.inr rfl), ?_⟩
    · rcases hst2 with hs | ⟨bs, bh, h1, h2, h3, h4, h5, h6, h7⟩
      · exact .inl hs
      · exact .inr ⟨bs, bh, h1, h2, h3, .inl h4, .inl h5, h6, h7⟩
    · intro i hi
      rw [hs2]
      rcases hi with hi | hi | hi
      · have := hF i hi; omega
      · omega
      · omega
  have HA2 := Lib.hid hA2
  clear hR hm2 k1 k2 hst2 hA2 HH HS
  refine (HV.out _ _ _ _ hRp).mono ?_
  rintro e w3 ⟨rfl, ⟨bs, bh, hR3⟩, hA3⟩
  have hA : Apart F w w3 := HA2.out.trans hA3 (fun i hi => by rcases hi with hi | hi | hi; exact .inl hi; exact .inr (by omega); exact .inr (by omega))
  have h3s := hA3.size
  have hfin : Hid (RDone F g (freshR r n) (.tuple #[]) w (.returned (.tuple #[])) w3) := by
    refine Lib.hid ⟨rfl, ⟨_, _, bs, bh, hR3.mono (fun i hi => ?_) (fun i hi => ?_)⟩, hA⟩
    · rcases hi with (hi | hi | hi) | hi
      · exact .inl hi
      · exact .inr (by omega)
      · exact .inr (by omega)
      · exact .inr (by omega)
    · rcases hi with hi | hi
      · have := hF i hi; omega
      · exact hi.2
  clear hRp hR3 hA3 hA HA2 HV
  go_wp2_with (fail)
  go_end0
  exact hfin.out
end
end Go.Proofs.Ytaahbfcnccmcoaa
