/- The walks of the reference's Vote and of what its Take refuses. Conditions: as each theorem says. -/
import Derived.Test.YtaahbfcnccmcoaaVoteRg
namespace Go.Proofs.Ytaahbfcnccmcoaa
open Go.RowKit

def msgV (v : Vot) : Value := .agg #[.int .i64 1, .int .i64 v.b.l, .int .i64 v.b.e, .int .i64 v.b.c, .int .i64 v.b.p, .int .i64 0, .int .i64 0, .int .i64 0, .int .i64 v.round, .int .i64 v.state, .int .i64 0, .string ⟨#[]⟩, .slice none 0 0, .bool false, .int .i64 0, .int .i64 0, .int .i64 0]
def voteOfR (r : Rp) : Vot := ⟨r.now, r.round, 1⟩
section
variable {F : Nat → Prop} {g : Nat} {r : Rp} {w : World}
set_option maxRecDepth 100000 in
set_option maxHeartbeats 800000 in
theorem rvoteM_any (h : RpIn F g r w) : Calls Try.prog 38 #[ptrV g] w fun e w' => e = .returned (msgV (voteOfR r)) ∧ Below w.heap.size w w' := by
  obtain ⟨bt, bw, bs, bh, h⟩ := h
  have h := h.head
  have hlt : g < w.heap.size := h.lt
  have c6 := h.cell (i := 6) (v := .int .i64 r.round) rfl
  have c7 := h.cell (i := 7) (v := .int .i64 r.now.l) rfl
  have c8 := h.cell (i := 8) (v := .int .i64 r.now.e) rfl
  have c9 := h.cell (i := 9) (v := .int .i64 r.now.c) rfl
  have c10 := h.cell (i := 10) (v := .int .i64 r.now.p) rfl
  clear h
  unfold ptrV
  go_enter Try.func38, Try.ntmps38
  go_wp2
  go_region
  go_wp2
  exact bodyPost_ret (v := msgV (voteOfR r)) (by simp [results, Try.results38, go_sem, msgV, voteOfR]) rfl ⟨rfl, (alloc_below w _).drew⟩
end
end Go.Proofs.Ytaahbfcnccmcoaa
