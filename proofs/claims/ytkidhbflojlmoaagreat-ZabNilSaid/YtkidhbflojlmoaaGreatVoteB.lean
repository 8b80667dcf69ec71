/- The walks of Begin, Vote and New. Conditions: as each theorem says. -/
import Derived.Test.YtkidhbflojlmoaaGreatVoteA
namespace Go.Proofs.YtkidhbflojlmoaaGreat
open Go.RowKit

def decs0 : List Value := noDec.flatMap decCells
theorem decs0_length : decs0.length = 14 := by decide +kernel
theorem decs0_one : (decs0.toArray).all (·.oneCell') = true := by decide +kernel
theorem begin_w2 (g : Nat) (p : Poll) (hp : p.fit) (w : World) (h : PollAt g p w) : PollAt g { p with dec := noDec } (w.setCells g 46 decs0) := by
  have := BlkAt.sets decs0 h 46
  unfold decs0 at *
  rwa [poll_clearDec p hp.told hp.dec] at this
theorem begin_th (g : Nat) (p : Poll) (hp : p.fit) (w : World) (h : PollAt g p w) : w.there g 46 decs0.toArray.size :=
  BlkAt.there h 46 _ (by rw [pollCells_length p hp, List.size_toArray, decs0_length]; omega)
def beginP (p : Poll) : Poll := { freshP p (p.round + 1) with dec := noDec }
theorem begin_fit (p : Poll) (h : p.fit) : (beginP p).fit := ⟨h.nodes1, h.nodes7, h.me, by simp [beginP, freshP, noTold], by rfl⟩
set_option maxRecDepth 100000 in
set_option maxHeartbeats 800000 in
theorem begin_any (g : Nat) (p : Poll) (hp : p.fit) (hr0 : 0 ≤ p.round) (hr1 : p.round ≤ 4611686018427387904) (w : World) (h : PollAt g p w) :
    Calls Tryz.prog 58 #[ptrV g] w fun e w' => e = .returned (.tuple #[]) ∧ PollAt g (beginP p) w' ∧ w.grownBy w' (some g) := by
  have c6 : w.cell? ⟨g, 6, none⟩ = some (.int .i64 p.round) := h.cell (by rfl)
  have HFr := Lib.hid (fresh_any g p hp (p.round + 1) w h)
  have Hfit := Lib.hid (fresh_fit p (p.round + 1) hp)
  unfold ptrV at HFr
  clear h
  unfold ptrV
  go_enter Tryz.func58, Tryz.ntmps58
  go_wp2_with (fail)
  refine HFr.out.mono ?_
  rintro e w1 ⟨rfl, hP1, hG1⟩
  have HT := Lib.hid (begin_th g _ Hfit.out w1 hP1)
  have H2 := Lib.hid (begin_w2 g _ Hfit.out w1 hP1)
  have HG1 := Lib.hid hG1
  have hf : ∀ i, w1.frozen? ⟨g, i, none⟩ = false := BlkAt.frozen hP1
  clear hP1 hG1 c6
  go_upto_region 2 with (fail)
  go_wp2_with (refine wpList_store_mid (by rfl) 137 (.tmp 14) (.tmp 12) (by rfl) g 46 decs0.toArray (by rfl) (by rfl) HT.out (by kernel_rfl) decs0_one ?_; obtain ⟨w2, hw2, hP2, hG2⟩ : ∃ w2, w2 = w1.setCells g 46 decs0.toArray.toList ∧ PollAt g (beginP p) w2 ∧ w.grownBy w2 (some g) := ⟨_, rfl, H2.out, HG1.out.trans (grown_sets g decs0 w1 46)⟩; rw [← hw2]; have HP2 := Lib.hid hP2; have HG2 := Lib.hid hG2; clear hw2 hP2 hG2 hf)
  go_wp2
  go_end0
  exact ⟨rfl, HP2.out, HG2.out⟩
set_option maxRecDepth 100000 in
theorem begin_nil (w : World) : Calls Tryz.prog 58 #[.pointer none] w fun e w' => e = .returned (.tuple #[]) ∧ w' = w := by
  go_enter Tryz.func58, Tryz.ntmps58
  go_wp2
  go_end0
  exact ⟨rfl, rfl⟩
/-- A vote as a value. -/
structure Vot where
  b : Bal
  round : Int
  state : Int
deriving DecidableEq, Inhabited
def votV (v : Vot) : Value := .agg #[.int .i64 v.b.l, .int .i64 v.b.e, .int .i64 v.b.c, .int .i64 v.b.p, .int .i64 v.round, .int .i64 v.state]
def voteOf (p : Poll) : Vot := ⟨p.now, p.round, 1⟩
set_option maxRecDepth 100000 in
set_option maxHeartbeats 800000 in
theorem voteM_any (g : Nat) (p : Poll) (w : World) (h : PollAt g p w) :
    Calls Tryz.prog 37 #[ptrV g] w fun e w' => e = .returned (votV (voteOf p)) ∧ Below w.heap.size w w' := by
  have hlt : g < w.heap.size := BlkAt.lt h
  have c6 : w.cell? ⟨g, 6, none⟩ = some (.int .i64 p.round) := h.cell (by rfl)
  have c7 : w.cell? ⟨g, 7, none⟩ = some (.int .i64 p.now.l) := h.cell (by rfl)
  have c8 : w.cell? ⟨g, 8, none⟩ = some (.int .i64 p.now.e) := h.cell (by rfl)
  have c9 : w.cell? ⟨g, 9, none⟩ = some (.int .i64 p.now.c) := h.cell (by rfl)
  have c10 : w.cell? ⟨g, 10, none⟩ = some (.int .i64 p.now.p) := h.cell (by rfl)
  clear h
  unfold ptrV
  go_enter Tryz.func37, Tryz.ntmps37
  go_wp2
  go_region
  go_wp2
  exact bodyPost_ret (v := votV (voteOf p)) (by simp [results, Tryz.results37, go_sem, votV, voteOf]) rfl ⟨rfl, (alloc_below w _).drew⟩
set_option maxRecDepth 100000 in
theorem voteM_nil (w : World) : Calls Tryz.prog 37 #[.pointer none] w fun e w' => e = .returned (votV ⟨zeroBal, 0, 0⟩) ∧ Below w.heap.size w w' := by
  go_enter Tryz.func37, Tryz.ntmps37
  go_wp2
  exact bodyPost_ret (v := votV ⟨zeroBal, 0, 0⟩) (by simp [results, Tryz.results37, go_sem, votV, zeroBal]) rfl ⟨rfl, alloc_below w _⟩
end Go.Proofs.YtkidhbflojlmoaaGreat
