/- A told ballot stored into the reference's poll. Conditions: as each theorem says. -/
import Derived.Test.YtaahbfcnccmcoaaVoteRk
namespace Go.Proofs.Ytaahbfcnccmcoaa
open Go.RowKit

/-- The world behind the two stores. -/
def tellW (y : World) (bt bw f : Nat) (b : Bal) : World := ((((y.setCell ⟨bt, f, none⟩ (.bool true)).setCell ⟨bw, f * 4, none⟩ (.int .i64 b.l)).setCell ⟨bw, f * 4 + 1, none⟩ (.int .i64 b.e)).setCell ⟨bw, f * 4 + 2, none⟩ (.int .i64 b.c)).setCell ⟨bw, f * 4 + 3, none⟩ (.int .i64 b.p)
theorem tell_size (y : World) (bt bw f : Nat) (b : Bal) : (tellW y bt bw f b).heap.size = y.heap.size := by simp [tellW]
theorem tell_blk {y : World} {bt bw f : Nat} {b : Bal} {k : Nat} {T : TypeId} {cs : List Value} (h : BlkAt k T cs y) (h1 : k ≠ bt) (h2 : k ≠ bw) : BlkAt k T cs (tellW y bt bw f b) :=
  (h.grown (grown_set y bt f (.bool true)) (fun e => h1 (Option.some.inj e))).grown (four_grown _ bw (f * 4) (.int .i64 b.l) (.int .i64 b.e) (.int .i64 b.c) (.int .i64 b.p)) (fun e => h2 (Option.some.inj e))
theorem tell_apart (F : Nat → Prop) (y : World) (bt bw f : Nat) (b : Bal) (h1 : F bt) (h2 : F bw) : Apart F y (tellW y bt bw f b) :=
  (Apart.of_grown (grown_set y bt f (.bool true)) (fun k hk => .inl (by rw [← Option.some.inj hk]; exact h1))).trans (Apart.of_grown (F := F) (four_grown _ bw (f * 4) (.int .i64 b.l) (.int .i64 b.e) (.int .i64 b.c) (.int .i64 b.p)) (fun k hk => .inl (by rw [← Option.some.inj hk]; exact h2))) (fun i hi => .inl hi)
theorem tell_at {F : Nat → Prop} {g : Nat} {r : Rp} {bt bw bs bh : Nat} {y : World} (h : RpAt F g r bt bw (sl bs r.nodes) (sl bh r.nodes) y) {f : Nat} (hw : f < r.what.length) (b : Bal) : RpAt F g (tellR r f b) bt bw (sl bs r.nodes) (sl bh r.nodes) (tellW y bt bw f b) := by
  obtain ⟨hne, hsF, hhF, hbs, hbh⟩ := h.states
  have ngt := blk_other h.head h.told (by decide)
  have ngw := blk_other h.head h.what (by decide)
  have ntw := blk_other h.told h.what (by decide)
  have g1 := grown_set y bt f (.bool true)
  have g2 := four_grown (y.setCell ⟨bt, f, none⟩ (.bool true)) bw (f * 4) (.int .i64 b.l) (.int .i64 b.e) (.int .i64 b.c) (.int .i64 b.p)
  have k1 := (h.told.set f (.bool true)).grown g2 (fun e => ntw (Option.some.inj e))
  rw [bools_set] at k1
  have k2 := ((((h.what.grown g1 (fun e => ntw (Option.some.inj e).symm)).set (f * 4) (.int .i64 b.l)).set (f * 4 + 1) (.int .i64 b.e)).set (f * 4 + 2) (.int .i64 b.c)).set (f * 4 + 3) (.int .i64 b.p)
  rw [bals_set r.what f hw b] at k2
  exact ⟨tell_blk h.head ngt ngw, k1, k2, .inr ⟨bs, bh, rfl, rfl, hne, hsF, hhF, tell_blk hbs (blk_other hbs h.told (by decide)) (blk_other hbs h.what (by decide)), tell_blk hbh (blk_other hbh h.told (by decide)) (blk_other hbh h.what (by decide))⟩, h.fg, h.ft, h.fw, fun i hi => by rw [tell_size]; exact h.lt i hi⟩
theorem RpAt.drew {F : Nat → Prop} {g : Nat} {r : Rp} {bt bw : Nat} {vs vh : Value} {w : World} (h : RpAt F g r bt bw vs vh w) : RpAt F g r bt bw vs vh w.drew := by
  refine ⟨h.head, h.told, h.what, ?_, h.fg, h.ft, h.fw, h.lt⟩
  rcases h.st with e | ⟨b1, b2, h4, h5, h6, h7, h8, h9, h10⟩
  · exact .inl e
  · exact .inr ⟨b1, b2, h4, h5, h6, h7, h8, h9, h10⟩
theorem Apart.drew {F : Nat → Prop} {a b : World} (h : Apart F a b) : Apart F a b.drew := ⟨h.os, h.tape, h.output, h.size, h.block⟩
/-- A call's end from the poll where it stands. -/
theorem RDone.mk' {F : Nat → Prop} {g : Nat} {r : Rp} {bt bw bs bh : Nat} {v : Value} {w x : World} (h : RpAt F g r bt bw (sl bs r.nodes) (sl bh r.nodes) x) (hA : Apart F w x) : RDone F g r v w (.returned v) x :=
  ⟨rfl, ⟨bt, bw, bs, bh, h.mono (fun i hi => .inl hi) (fun i hi => by rcases hi with hi | hi; exact h.lt i hi; exact hi.2)⟩, hA⟩
/-- A call's end behind a call that ended so. -/
theorem RDone.after {F : Nat → Prop} {g : Nat} {r : Rp} {bt bw : Nat} {v : Value} {w x y : World} {bs bh : Nat} (hA : Apart F w x) (hF : ∀ i, F i → i < w.heap.size) (h : RpAt (Foot F x y) g r bt bw (sl bs r.nodes) (sl bh r.nodes) y) (k : Apart F x y) : RDone F g r v w (.returned v) y := by
  have h1 := hA.size
  have h2 := k.size
  refine ⟨rfl, ⟨bt, bw, bs, bh, h.mono (fun i hi => ?_) (fun i hi => ?_)⟩, hA.trans k (fun i hi => .inl hi)⟩
  · rcases hi with hi | hi
    · exact .inl hi
    · exact .inr ⟨by omega, hi.2⟩
  · rcases hi with hi | hi
    · have := hF i hi; omega
    · exact hi.2
end Go.Proofs.Ytaahbfcnccmcoaa
