/- The walks of a poll's small functions: node, better, vote, fresh. Conditions: as each theorem says. -/
import Derived.Test.YtkidhbflojlmoaaGreatVoteP
import Derived.Maps.AppendAt
import Derived.Deep.RegionHeld3
namespace Go.Proofs.YtkidhbflojlmoaaGreat
open Go.RowKit

theorem alloc_below (w : World) (o : Obj) : Below w.heap.size w (w.alloc o) := (Below.refl _ _).alloc (Nat.le_refl _) _
theorem grown_drew (w : World) (row : Option Nat) : w.grownBy w.drew row := ⟨rfl, rfl, rfl, Nat.le_refl _, fun _ _ _ => rfl⟩
theorem grown_set (w : World) (g i : Nat) (v : Value) : w.grownBy (w.setCell ⟨g, i, none⟩ v) (some g) := by
  have b := (Below.refl g w).setCell (p := ⟨g, i, none⟩) (Nat.le_refl _) v
  exact ⟨b.os, b.tape, b.output, b.size, fun k _ hk => Below.heap_setCell _ _ _ _ (fun h => hk (by rw [h]))⟩
theorem grown_sets (g : Nat) (vs : List Value) : ∀ (w : World) (o : Nat), w.grownBy (w.setCells g o vs) (some g) := by
  induction vs with
  | nil => intro w o; exact World.grownBy.refl w _
  | cons v vs ih => intro w o; exact (grown_set w g o v).trans (ih _ _)
theorem grown_below {w w' : World} (h : Below w.heap.size w w') (row : Option Nat) : w.grownBy w' row := ⟨h.os, h.tape, h.output, h.size, fun k hk _ => h.block k hk⟩
theorem BlkAt.grown {g : Nat} {T : TypeId} {cs : List Value} {w w' : World} {row : Option Nat} (h : BlkAt g T cs w) (hg : w.grownBy w' row) (hne : some g ≠ row) : BlkAt g T cs w' := by
  have hl := h.lt
  unfold BlkAt at *
  rw [hg.block g hl hne]; exact h
def balV (b : Bal) : Value := .agg #[.int .i64 b.l, .int .i64 b.e, .int .i64 b.c, .int .i64 b.p]
def ptrV (g : Nat) : Value := .pointer (some ⟨g, 0, none⟩)
def nodeB (p : Poll) (n : Int) : Bool := decide (0 ≤ n) && decide (n < (p.nodes : Int))
def betterB (a b : Bal) : Bool := if a.p = b.p then (if (a.e, a.c) = (b.e, b.c) then decide (b.l < a.l) else lessZ (b.e, b.c) (a.e, a.c)) else decide (b.p < a.p)
set_option maxRecDepth 100000 in
set_option maxHeartbeats 800000 in
theorem vote_any (g : Nat) (p : Poll) (hp : p.fit) (b : Bal) (w : World) (h : PollAt g p w) :
    Calls Tryz.prog 92 #[ptrV g, balV b] w fun e w' => e = .returned (.tuple #[]) ∧ PollAt g { p with now := b, told := p.told.set p.me (true, b) } w' ∧ w.grownBy w' (some g) := by
  have c0 : w.cell? ⟨g, 0, none⟩ = some (.int .i64 (p.me : Int)) := h.cell (by rfl)
  have c7 : w.cell? ⟨g, 7, none⟩ = some (.int .i64 p.now.l) := h.cell (by rfl)
  have c8 : w.cell? ⟨g, 8, none⟩ = some (.int .i64 p.now.e) := h.cell (by rfl)
  have c9 : w.cell? ⟨g, 9, none⟩ = some (.int .i64 p.now.c) := h.cell (by rfl)
  have c10 : w.cell? ⟨g, 10, none⟩ = some (.int .i64 p.now.p) := h.cell (by rfl)
  have hme : p.me < p.told.length := by have := hp.me; have := hp.nodes7; have := hp.told; omega
  have hm7 : p.me < 7 := by have := hp.told; omega
  have t0 : w.cell? ⟨g, 11 + p.me * 5, none⟩ = some (.bool p.told[p.me].1) := h.cell (by rw [show 11 + p.me * 5 = 11 + p.me * 5 + 0 from rfl, poll_told p p.me 0 hme (by omega)]; rfl)
  have t1 : w.cell? ⟨g, 11 + p.me * 5 + 1, none⟩ = some (.int .i64 p.told[p.me].2.l) := h.cell (by rw [poll_told p p.me 1 hme (by omega)]; rfl)
  have t2 : w.cell? ⟨g, 11 + p.me * 5 + 2, none⟩ = some (.int .i64 p.told[p.me].2.e) := h.cell (by rw [poll_told p p.me 2 hme (by omega)]; rfl)
  have t3 : w.cell? ⟨g, 11 + p.me * 5 + 3, none⟩ = some (.int .i64 p.told[p.me].2.c) := h.cell (by rw [poll_told p p.me 3 hme (by omega)]; rfl)
  have t4 : w.cell? ⟨g, 11 + p.me * 5 + 4, none⟩ = some (.int .i64 p.told[p.me].2.p) := h.cell (by rw [poll_told p p.me 4 hme (by omega)]; rfl)
  have hf : ∀ i, w.frozen? ⟨g, i, none⟩ = false := h.frozen
  have hlt : g < w.heap.size := BlkAt.lt h
  have HH := Lib.hid h
  clear h
  unfold ptrV balV
  go_enter Tryz.func92, Tryz.ntmps92
  go_wp2
  go_region
  go_end0
  refine ⟨rfl, ?_, ?_⟩
  · have h1 : PollAt g { p with now := b } (w.setCells g 7 b.cells) := by have := BlkAt.sets b.cells HH.out 7; rwa [poll_setNow] at this
    have h2 : PollAt g { p with now := b, told := p.told.set p.me (true, b) } ((w.setCells g 7 b.cells).setCells g (11 + p.me * 5) (toldCells (true, b))) := by
      have := BlkAt.sets (toldCells (true, b)) h1 (11 + p.me * 5)
      rwa [poll_setTold { p with now := b } p.me hme] at this
    exact BlkAt.drew (BlkAt.grew h2 (alloc_below _ _))
  · exact (((grown_sets g b.cells w 7).trans (grown_sets g (toldCells (true, b)) _ (11 + p.me * 5))).trans (World.grownBy_alloc _ _ _)).trans (grown_drew _ _)
/-- A poll in which it alone was told. -/
def freshP (p : Poll) (r : Int) : Poll := { p with round := r, now := p.own, told := noTold.set p.me (true, p.own) }
theorem fresh_fit (p : Poll) (r : Int) (h : p.fit) : (freshP p r).fit := ⟨h.nodes1, h.nodes7, h.me, by simp [freshP, noTold], h.dec⟩
theorem noTold_one : ((noTold.flatMap toldCells).toArray).all (·.oneCell') = true := by decide +kernel
theorem fresh_w1 (g : Nat) (p : Poll) (r : Int) (w : World) (h : PollAt g p w) : PollAt g { p with round := r } (w.setCell ⟨g, 6, none⟩ (.int .i64 r)) := by
  have := BlkAt.set h 6 (.int .i64 r)
  rwa [poll_setRound] at this
def tolds0 : List Value := noTold.flatMap toldCells
theorem tolds0_length : tolds0.length = 35 := by decide +kernel
theorem tolds0_one : (tolds0.toArray).all (·.oneCell') = true := by decide +kernel
theorem fresh_w2 (g : Nat) (p : Poll) (hp : p.told.length = 7) (w : World) (h : PollAt g p w) : PollAt g { p with told := noTold } (w.setCells g 11 tolds0) := by
  have := BlkAt.sets tolds0 h 11
  unfold tolds0 at *
  rwa [poll_clearTold p hp] at this
theorem fresh_th (g : Nat) (p : Poll) (hp : p.fit) (w : World) (h : PollAt g p w) : w.there g 11 tolds0.toArray.size :=
  BlkAt.there h 11 _ (by rw [pollCells_length p hp, List.size_toArray, tolds0_length]; omega)
set_option maxRecDepth 100000 in
set_option maxHeartbeats 800000 in
theorem fresh_any (g : Nat) (p : Poll) (hp : p.fit) (r : Int) (w : World) (h : PollAt g p w) :
    Calls Tryz.prog 79 #[ptrV g, .int .i64 r] w fun e w' => e = .returned (.tuple #[]) ∧ PollAt g (freshP p r) w' ∧ w.grownBy w' (some g) := by
  have c6 : w.cell? ⟨g, 6, none⟩ = some (.int .i64 p.round) := h.cell (by rfl)
  have hf : ∀ i, w.frozen? ⟨g, i, none⟩ = false := h.frozen
  have hlt : g < w.heap.size := BlkAt.lt h
  have HV := Lib.hid (fun W hW => vote_any g { p with round := r, told := noTold } ⟨hp.nodes1, hp.nodes7, hp.me, rfl, hp.dec⟩ p.own W hW)
  unfold ptrV balV at HV
  have h1 := fresh_w1 g p r w h
  have HT := Lib.hid (fresh_th g { p with round := r } ⟨hp.nodes1, hp.nodes7, hp.me, hp.told, hp.dec⟩ _ h1)
  have H2 := Lib.hid (fresh_w2 g { p with round := r } hp.told _ h1)
  have HG : Hid (w.grownBy ((w.setCell ⟨g, 6, none⟩ (.int .i64 r)).setCells g 11 tolds0) (some g)) := (grown_set w g 6 (.int .i64 r)).trans (grown_sets g tolds0 _ 11)
  clear h1 h
  unfold ptrV
  go_enter Tryz.func79, Tryz.ntmps79
  go_upto_region 1 with (fail)
  go_wp2_with (refine wpList_store_mid (by rfl) 134 (.tmp 11) (.tmp 9) (by rfl) g 11 tolds0.toArray (by rfl) (by rfl) HT.out (by kernel_rfl) tolds0_one ?_; obtain ⟨w2, hw2, hP2, hG2⟩ : ∃ w2, w2 = (w.setCell ⟨g, 6, none⟩ (.int .i64 r)).setCells g 11 tolds0.toArray.toList ∧ PollAt g { p with round := r, told := noTold } w2 ∧ w.grownBy w2 (some g) := ⟨_, rfl, H2.out, HG.out⟩; rw [← hw2]; have d2 : w2.cell? ⟨g, 2, none⟩ = some (.int .i64 p.own.l) := hP2.cell (by rfl); have d3 : w2.cell? ⟨g, 3, none⟩ = some (.int .i64 p.own.e) := hP2.cell (by rfl); have d4 : w2.cell? ⟨g, 4, none⟩ = some (.int .i64 p.own.c) := hP2.cell (by rfl); have d5 : w2.cell? ⟨g, 5, none⟩ = some (.int .i64 p.own.p) := hP2.cell (by rfl); have HP2 := Lib.hid hP2; have HG2 := Lib.hid hG2; clear hw2 hP2 hG2 c6 hf hlt)
  refine (HV.out _ HP2.out).mono ?_
  rintro e w3 ⟨rfl, hP3, hG3⟩
  go_wp2
  go_end0
  exact ⟨rfl, hP3, HG2.out.trans hG3⟩
end Go.Proofs.YtkidhbflojlmoaaGreat
