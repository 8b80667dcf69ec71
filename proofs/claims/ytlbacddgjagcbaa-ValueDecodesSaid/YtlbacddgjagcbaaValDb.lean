/- What a reader of messages changes: its own two blocks, and a message's block under way. Conditions: as each theorem says. -/
import Derived.Test.YtlbacddgjagcbaaValDa
import Derived.Test.YtlbacddgjagcbaaValDd
namespace Go.Proofs.Ytlbacddgjagcbaa
open Go.RowKit

/-- Two blocks alone may have changed of what there was. -/
structure Gr2 (q v : Nat) (a b : World) : Prop where
  os : b.os = a.os
  tape : b.tape = a.tape
  output : b.output = a.output
  size : a.heap.size ≤ b.heap.size
  block : ∀ i, i < a.heap.size → i ≠ q → i ≠ v → b.heap[i]? = a.heap[i]?
theorem Gr2.refl (q v : Nat) (w : World) : Gr2 q v w w := ⟨rfl, rfl, rfl, Nat.le_refl _, fun _ _ _ _ => rfl⟩
theorem Gr2.trans {q v : Nat} {a b c : World} (h : Gr2 q v a b) (k : Gr2 q v b c) : Gr2 q v a c :=
  ⟨k.os.trans h.os, k.tape.trans h.tape, k.output.trans h.output, Nat.le_trans h.size k.size, fun i hi hq hv => (k.block i (Nat.lt_of_lt_of_le hi h.size) hq hv).trans (h.block i hi hq hv)⟩
theorem Gr2.of_q {q v : Nat} {a b : World} (h : a.grownBy b (some q)) : Gr2 q v a b := ⟨h.os, h.tape, h.output, h.size, fun i hi hq _ => h.block i hi (fun e => hq (Option.some.inj e))⟩
theorem Gr2.of_v {q v : Nat} {a b : World} (h : a.grownBy b (some v)) : Gr2 q v a b := ⟨h.os, h.tape, h.output, h.size, fun i hi _ hv => h.block i hi (fun e => hv (Option.some.inj e))⟩
theorem Gr2.of_below {q v : Nat} {a b : World} (h : Below a.heap.size a b) : Gr2 q v a b := ⟨h.os, h.tape, h.output, h.size, fun i hi _ _ => h.block i hi⟩
theorem Gr2.own {q v k : Nat} {a b c : World} (h : Gr2 q v a b) (g : b.grownBy c (some k)) (hk : a.heap.size ≤ k) : Gr2 q v a c :=
  ⟨g.os.trans h.os, g.tape.trans h.tape, g.output.trans h.output, Nat.le_trans h.size g.size, fun j hj hq hv => by rw [g.block j (Nat.lt_of_lt_of_le hj h.size) (fun e => by have := Option.some.inj e; omega), h.block j hj hq hv]⟩
theorem Gr2.blk {q v g : Nat} {T : TypeId} {cs : List Value} {a b : World} (h : Gr2 q v a b) (hb : BlkAt g T cs a) (hq : g ≠ q) (hv : g ≠ v) : BlkAt g T cs b := by
  have hl := BlkAt.lt hb
  unfold BlkAt at *
  rw [h.block g hl hq hv]; exact hb
theorem Gr2.cell {q v : Nat} {a b : World} (h : Gr2 q v a b) {g o : Nat} {u : Value} (hc : a.cell? ⟨g, o, none⟩ = some u) (hq : g ≠ q) (hv : g ≠ v) : b.cell? ⟨g, o, none⟩ = some u := by
  have hl := block_lt_of_cell hc
  rw [← hc]
  exact World.cell?_of_block (h.block g hl hq hv)
theorem Gr2.ents {q v : Nat} {a b : World} {ad : Option Addr} {cap : Nat} {L : List Ent} (h : Gr2 q v a b) (hE : EntsIn a ad cap L) (hne : ∀ p, ad = some p → p.block ≠ q ∧ p.block ≠ v) : EntsIn b ad cap L := by
  obtain ⟨h1, h2, ⟨a', cap', hv', hc⟩, h4⟩ := hE
  refine ⟨h1, h2, ⟨a', cap', hv', fun i hi => ?_⟩, h4⟩
  obtain ⟨g, off, e, c0, c1, c2⟩ := hc i hi
  simp only [Value.slice.injEq] at hv'
  obtain ⟨rfl, _, _⟩ := hv'
  obtain ⟨n1, n2⟩ := hne _ e
  exact ⟨g, off, e, h.cell c0 n1 n2, h.cell c1 n1 n2, h.cell c2 n1 n2⟩
/-- Where both blocks are new, nothing older has changed. -/
theorem Gr2.below {q v : Nat} {w a b : World} (h : Gr2 q v a b) (hw : Below w.heap.size w a) (hq : w.heap.size ≤ q) (hv : w.heap.size ≤ v) : Below w.heap.size w b :=
  ⟨h.os.trans hw.os, h.tape.trans hw.tape, h.output.trans hw.output, Nat.le_trans hw.size h.size, fun i hi => (h.block i (Nat.lt_of_lt_of_le hi hw.size) (by omega) (by omega)).trans (hw.block i hi)⟩
/-- The reader at v, over the pack's reader at q. -/
structure Rds (TV TR : TypeId) (v q : Nat) (bad : Bool) (r : Rd) (w : World) : Prop where
  v : BlkAt v TV [.pointer (some ⟨q, 0, none⟩), .bool bad] w
  r : RdAt TR q r w
theorem rd_blk {TR : TypeId} {q : Nat} {r : Rd} {w : World} (h : RdAt TR q r w) : BlkAt q TR [.string (bs r.l), .int .i64 (r.e : Int)] w := h
theorem Rds.kept {TV TR : TypeId} {v q : Nat} {bad : Bool} {r : Rd} {a b : World} {k : Nat} (h : Rds TV TR v q bad r a) (g : a.grownBy b (some k)) (hv : v ≠ k) (hq : q ≠ k) : Rds TV TR v q bad r b :=
  ⟨BlkAt.grown h.v g (fun e => hv (Option.some.inj e)), BlkAt.grown (rd_blk h.r) g (fun e => hq (Option.some.inj e))⟩
theorem Rds.grew {TV TR : TypeId} {v q : Nat} {bad : Bool} {r : Rd} {a b : World} (h : Rds TV TR v q bad r a) (g : Below a.heap.size a b) : Rds TV TR v q bad r b := ⟨BlkAt.grew h.v g, BlkAt.grew (rd_blk h.r) g⟩
theorem Rds.drew {TV TR : TypeId} {v q : Nat} {bad : Bool} {r : Rd} {w : World} (h : Rds TV TR v q bad r w) : Rds TV TR v q bad r w.drew := ⟨h.v, h.r⟩
theorem Rds.num {TV TR : TypeId} {v q : Nat} {bad : Bool} {r r1 : Rd} {a b : World} (h : Rds TV TR v q bad r a) (hvq : v ≠ q) (hr : RdAt TR q r1 b) (g : a.grownBy b (some q)) : Rds TV TR v q bad r1 b :=
  ⟨BlkAt.grown h.v g (fun e => hvq (Option.some.inj e)), hr⟩
/-- The blocks are four, and two of them are new. -/
structure Four (w0 : World) (v q k j : Nat) : Prop where
  vq : v ≠ q
  kv : k ≠ v
  kq : k ≠ q
  jv : j ≠ v
  jq : j ≠ q
  kj : k ≠ j
  k : w0.heap.size ≤ k
  j : w0.heap.size ≤ j
/-- A message under way: the reader, the message's block, the result's. -/
structure Mid (TV TR T : TypeId) (v q k j : Nat) (bad : Bool) (r : Rd) (cs zs : List Value) (w0 w : World) : Prop where
  s : Rds TV TR v q bad r w
  k : BlkAt k T cs w
  j : BlkAt j T zs w
  g : Gr2 q v w0 w
section
variable {TV TR T : TypeId} {v q k j : Nat} {bad bad' : Bool} {r r' : Rd} {cs zs : List Value} {w0 w w1 : World}
theorem Mid.v0 (h : Mid TV TR T v q k j bad r cs zs w0 w) : w.cell? ⟨v, 0, none⟩ = some (.pointer (some ⟨q, 0, none⟩)) := BlkAt.cell h.s.v rfl
theorem Mid.v1 (h : Mid TV TR T v q k j bad r cs zs w0 w) : w.cell? ⟨v, 1, none⟩ = some (.bool bad) := BlkAt.cell h.s.v rfl
theorem Mid.vf (h : Mid TV TR T v q k j bad r cs zs w0 w) : w.frozen? ⟨v, 1, none⟩ = false := BlkAt.frozen h.s.v 1
theorem Mid.call (h : Mid TV TR T v q k j bad r cs zs w0 w) (n : Four w0 v q k j) (hs : Rds TV TR v q bad' r' w1) (g : Gr2 q v w w1) : Mid TV TR T v q k j bad' r' cs zs w0 w1 :=
  ⟨hs, g.blk h.k n.kq n.kv, g.blk h.j n.jq n.jv, h.g.trans g⟩
theorem Mid.num (h : Mid TV TR T v q k j bad r cs zs w0 w) (n : Four w0 v q k j) (hr : RdAt TR q r' w1) (g : w.grownBy w1 (some q)) : Mid TV TR T v q k j bad r' cs zs w0 w1 :=
  h.call n (h.s.num n.vq hr g) (Gr2.of_q g)
theorem Mid.kept (h : Mid TV TR T v q k j bad r cs zs w0 w) (n : Four w0 v q k j) {cs' : List Value} (hk : BlkAt k T cs' w1) (g : w.grownBy w1 (some k)) : Mid TV TR T v q k j bad r cs' zs w0 w1 :=
  ⟨h.s.kept g (Ne.symm n.kv) (Ne.symm n.kq), hk, BlkAt.grown h.j g (fun e => n.kj (Option.some.inj e).symm), h.g.own g n.k⟩
theorem Mid.set (h : Mid TV TR T v q k j bad r cs zs w0 w) (n : Four w0 v q k j) (o : Nat) (x : Value) : Mid TV TR T v q k j bad r (cs.set o x) zs w0 (w.setCell ⟨k, o, none⟩ x) :=
  h.kept n (h.k.set o x) (grown_set _ _ _ _)
theorem Mid.grew (h : Mid TV TR T v q k j bad r cs zs w0 w) (g : Below w.heap.size w w1) : Mid TV TR T v q k j bad r cs zs w0 w1 :=
  ⟨h.s.grew g, h.k.grew g, h.j.grew g, h.g.trans (Gr2.of_below g)⟩
theorem Mid.setBad (h : Mid TV TR T v q k j bad r cs zs w0 w) (n : Four w0 v q k j) (b : Bool) : Mid TV TR T v q k j b r cs zs w0 (w.setCell ⟨v, 1, none⟩ (.bool b)) := by
  have g := grown_set w v 1 (.bool b)
  refine ⟨⟨?_, BlkAt.grown (rd_blk h.s.r) g (fun e => n.vq (Option.some.inj e).symm)⟩, BlkAt.grown h.k g (fun e => n.kv (Option.some.inj e)), BlkAt.grown h.j g (fun e => n.jv (Option.some.inj e)), h.g.trans (Gr2.of_v g)⟩
  have := h.s.v.set 1 (.bool b)
  simpa using this
/-- The first number is in the message's block. -/
theorem mid_start (hvq : v ≠ q) (h : Rds TV TR v q bad r w) (h1 : Rds TV TR v q bad' r' w1) (g1 : Gr2 q v (w.alloc (.cells zs.toArray T)) w1) {w2 : World} (hk : BlkAt w1.heap.size T cs w2) (g2 : (w1.alloc (.cells zs.toArray T)).grownBy w2 (some w1.heap.size)) :
    Four w v q w1.heap.size w.heap.size ∧ Mid TV TR T v q w1.heap.size w.heap.size bad' r' cs zs w w2 := by
  have a0 := alloc_below w (.cells zs.toArray T)
  have a1 := alloc_below w1 (.cells zs.toArray T)
  have hv := BlkAt.lt h.v
  have hq := BlkAt.lt (rd_blk h.r)
  have s0 : (w.alloc (.cells zs.toArray T)).heap.size = w.heap.size + 1 := by simp
  have s1 := g1.size
  have hF : Four w v q w1.heap.size w.heap.size := ⟨hvq, by omega, by omega, by omega, by omega, by omega, by omega, Nat.le_refl _⟩
  refine ⟨hF, (h1.grew a1).kept g2 (Ne.symm hF.kv) (Ne.symm hF.kq), hk, BlkAt.grown ((g1.blk (BlkAt.alloc_new w zs T) hF.jq hF.jv).grew a1) g2 (fun e => hF.kj (Option.some.inj e).symm), ?_⟩
  exact (((Gr2.of_below a0).trans g1).trans (Gr2.of_below a1)).own g2 hF.k
end
/-! The contracts of the reader's parts in this form. -/
abbrev VRd : TypeId := 113
theorem zx_at (v q : Nat) (hvq : v ≠ q) (bad : Bool) (r : Rd) (hl : r.l.length ≤ 9223372036854775807) {a b : Int} {r2 : Rd} (hn : numsR 2 r = ([a, b], r2)) (w : World) (h : Rds VRd PackRd v q bad r w) :
    Calls Try.prog 87 #[.pointer (some ⟨v, 0, none⟩)] w fun e w' => e = .returned (.agg #[.int .i64 a, .int .i64 b]) ∧ Rds VRd PackRd v q bad r2 w' ∧ Gr2 q v w w' := by
  simp only [numsR, Prod.mk.injEq, List.cons.injEq, and_true] at hn
  obtain ⟨⟨rfl, rfl⟩, rfl⟩ := hn
  exact (rdZxid_any v q hvq bad r _ _ _ _ w h.v h.r hl rfl rfl).mono fun e w' ⟨h1, h2, h3, h4⟩ => ⟨h1, ⟨h2, h3⟩, Gr2.of_q h4⟩
theorem ent_at (v q : Nat) (hvq : v ≠ q) (bad : Bool) (r : Rd) (hl : r.l.length ≤ 9223372036854775807) (w : World) (h : Rds VRd PackRd v q bad r w) :
    Calls Try.prog 79 #[.pointer (some ⟨v, 0, none⟩)] w fun e w' => e = .returned (entV (entR r).1) ∧ Rds VRd PackRd v q bad (entR r).2 w' ∧ Gr2 q v w w' :=
  (rdEntry_any v q hvq bad r _ _ _ _ _ _ w h.v h.r hl rfl rfl rfl).mono fun e w' ⟨h1, h2, h3, h4⟩ => ⟨h1, ⟨h2, h3⟩, Gr2.of_q h4⟩
theorem flag_at (v q : Nat) (hvq : v ≠ q) (bad : Bool) (r : Rd) (hl : r.l.length ≤ 9223372036854775807) {n : Int} {r1 : Rd} (hn : numR r = (n, r1)) (w : World) (h : Rds VRd PackRd v q bad r w) :
    Calls Try.prog 88 #[.pointer (some ⟨v, 0, none⟩)] w fun e w' => e = .returned (.bool (decide (n = 1))) ∧ Rds VRd PackRd v q (bad || badFlag n) r1 w' ∧ Gr2 q v w w' :=
  (rdFlag_any v q hvq bad r r1 n w h.v h.r hl hn).mono fun e w' ⟨h1, h2, h3, a, g1, g2⟩ => ⟨h1, ⟨h2, h3⟩, (Gr2.of_q g1).trans (Gr2.of_v g2)⟩
theorem pnum_at (v q : Nat) (hvq : v ≠ q) (bad : Bool) (r : Rd) (hl : r.l.length ≤ 9223372036854775807) {n : Int} {r1 : Rd} (hn : numR r = (n, r1)) (w : World) (h : Rds VRd PackRd v q bad r w) :
    Calls Try.prog 26 #[.pointer (some ⟨q, 0, none⟩)] w fun e w' => e = .returned (.int .i64 n) ∧ Rds VRd PackRd v q bad r1 w' ∧ Gr2 q v w w' :=
  (numRead_at q r w h.r hl hn).mono fun e w' ⟨h1, h2, h3⟩ => ⟨h1, h.num hvq h2 h3, Gr2.of_q h3⟩
theorem ptext_at (v q : Nat) (hvq : v ≠ q) (bad : Bool) (r : Rd) (hl : r.l.length ≤ 9223372036854775807) {s : List UInt8} {r1 : Rd} (hn : textR r = (s, r1)) (w : World) (h : Rds VRd PackRd v q bad r w) :
    Calls Try.prog 28 #[.pointer (some ⟨q, 0, none⟩)] w fun e w' => e = .returned (.string (bs s)) ∧ Rds VRd PackRd v q bad r1 w' ∧ Gr2 q v w w' :=
  (textRead_at q r w h.r hl hn).mono fun e w' ⟨h1, h2, h3⟩ => ⟨h1, h.num hvq h2 h3, Gr2.of_q h3⟩
theorem well_at (v q : Nat) (bad : Bool) (r : Rd) (he : r.e ≠ 12) (w : World) (h : Rds VRd PackRd v q bad r w) :
    Calls Try.prog 64 #[.pointer (some ⟨v, 0, none⟩)] w fun e w' => e = .returned (.bool (decide (r.e = 0))) ∧ w' = w := by
  have h1 := rdWell_any v q bad r w h.v h.r
  unfold WellSaid at h1
  rw [well_e r he] at h1
  exact h1
theorem len_num {r r1 : Rd} {n : Int} (hn : numR r = (n, r1)) (hl : r.l.length ≤ 9223372036854775807) : r1.l.length ≤ 9223372036854775807 := by have := numR_len r; rw [hn] at this; exact Nat.le_trans this hl
theorem len_nums {r r1 : Rd} {k : Nat} {l : List Int} (hn : numsR k r = (l, r1)) (hl : r.l.length ≤ 9223372036854775807) : r1.l.length ≤ 9223372036854775807 := by have := numsR_le k r; rw [hn] at this; exact Nat.le_trans this hl
theorem len_text {r r1 : Rd} {s : List UInt8} (hn : textR r = (s, r1)) (hl : r.l.length ≤ 9223372036854775807) : r1.l.length ≤ 9223372036854775807 := by have := textR_len r; rw [hn] at this; exact Nat.le_trans this hl
end Go.Proofs.Ytlbacddgjagcbaa
