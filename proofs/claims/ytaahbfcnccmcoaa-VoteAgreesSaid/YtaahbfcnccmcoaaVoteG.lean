/- Take, whole; comparing structs. Conditions: as each theorem says. -/
import Derived.Test.YtaahbfcnccmcoaaVoteF
namespace Go.Proofs.Ytaahbfcnccmcoaa
open Go.RowKit

def takeP (p : Poll) (n : Nat) (v : Vot) : Poll × Int :=
  if v.state ≠ 1 then ({ p with dec := p.dec.set n (v.b.l, v.state) }, 0)
  else if v.round < p.round then ({ p with dec := p.dec.set n (0, 0) }, 1)
  else if p.round < v.round then
    (if betterB v.b p.own = true then { (freshP { p with dec := p.dec.set n (0, 0) } v.round) with now := v.b, told := ((freshP { p with dec := p.dec.set n (0, 0) } v.round).told.set n (true, v.b)).set p.me (true, v.b) }
      else { (freshP { p with dec := p.dec.set n (0, 0) } v.round) with told := (freshP { p with dec := p.dec.set n (0, 0) } v.round).told.set n (true, v.b) }, 2)
  else if betterB v.b p.now = true then ({ p with dec := p.dec.set n (0, 0), now := v.b, told := (p.told.set n (true, v.b)).set p.me (true, v.b) }, 2)
  else ({ p with dec := p.dec.set n (0, 0), told := p.told.set n (true, v.b) }, 0)
def stepP (p : Poll) (n : Int) (v : Vot) : Poll × Int := if okV p n v then takeP p n.toNat v else (p, 0)
theorem okV_nat {p : Poll} {n : Int} {v : Vot} (h : okV p n v) : ∃ k : Nat, n = (k : Int) ∧ k < p.nodes ∧ k ≠ p.me := by
  obtain ⟨h1, h2, _⟩ := h
  unfold nodeB at h1
  rw [Bool.and_eq_true] at h1
  have a := of_decide_eq_true h1.1
  have b := of_decide_eq_true h1.2
  exact ⟨n.toNat, by omega, by omega, by omega⟩
theorem step_fit (p : Poll) (n : Int) (v : Vot) (hp : p.fit) : (stepP p n v).1.fit := by
  unfold stepP
  split
  · unfold takeP
    split
    · exact ⟨hp.nodes1, hp.nodes7, hp.me, hp.told, by simp [hp.dec]⟩
    · split
      · exact ⟨hp.nodes1, hp.nodes7, hp.me, hp.told, by simp [hp.dec]⟩
      · split
        · split
          · exact ⟨hp.nodes1, hp.nodes7, hp.me, by simp [freshP, noTold], by simp [freshP, hp.dec]⟩
          · exact ⟨hp.nodes1, hp.nodes7, hp.me, by simp [freshP, noTold], by simp [freshP, hp.dec]⟩
        · split
          · exact ⟨hp.nodes1, hp.nodes7, hp.me, by simp [hp.told], by simp [hp.dec]⟩
          · exact ⟨hp.nodes1, hp.nodes7, hp.me, by simp [hp.told], by simp [hp.dec]⟩
  · exact hp
/-- THE CONTRACT OF Take. -/
theorem take_any (g : Nat) (p : Poll) (hp : p.fit) (n : Int) (v : Vot) (w : World) (h : PollAt g p w) :
    Calls Try.prog 28 #[ptrV g, .int .i64 n, votV v] w fun e w' => e = .returned (.int .i64 (stepP p n v).2) ∧ PollAt g (stepP p n v).1 w' ∧ w.grownBy w' (some g) := by
  unfold stepP
  by_cases hk : okV p n v
  · rw [if_pos hk]
    obtain ⟨k, rfl, h1, h2⟩ := okV_nat hk
    obtain ⟨_, _, q2, q3, q4, q5, q6, q7, q8⟩ := hk
    rw [Int.toNat_natCast]
    unfold takeP
    by_cases hs : v.state ≠ 1
    · rw [if_pos hs]
      exact take_dec g p k v w h hp h1 h2 q2 q3 q4 q5 q6 q7 q8 hs
    · rw [if_neg hs]
      have hs1 : v.state = 1 := by omega
      by_cases hr : v.round < p.round
      · rw [if_pos hr]
        exact take_old g p k v w h hp h1 h2 q2 q3 q4 q5 q6 q7 q8 hs1 hr
      · rw [if_neg hr]
        by_cases hr2 : p.round < v.round
        · rw [if_pos hr2]
          by_cases hb : betterB v.b p.own = true
          · rw [if_pos hb]
            exact take_more1 g p k v w h hp h1 h2 q2 q3 q4 q5 q6 q7 q8 hs1 hr2 hb
          · rw [if_neg hb]
            exact take_more0 g p k v w h hp h1 h2 q2 q3 q4 q5 q6 q7 q8 hs1 hr2 (by simpa using hb)
        · rw [if_neg hr2]
          by_cases hb : betterB v.b p.now = true
          · rw [if_pos hb]
            exact take_same1 g p k v w h hp h1 h2 q2 q3 q4 q5 q6 q7 q8 hs1 (by omega) hb
          · rw [if_neg hb]
            exact take_same0 g p k v w h hp h1 h2 q2 q3 q4 q5 q6 q7 q8 hs1 (by omega) (by simpa using hb)
  · rw [if_neg hk]
    refine (take_no g p n v w h hk).mono ?_
    rintro e w' ⟨he, hb⟩
    exact ⟨he, BlkAt.grew h hb, grown_below hb _⟩
theorem bal_eq (a b : Bal) : (a.l == b.l && a.e == b.e && a.c == b.c && a.p == b.p) = decide (a = b) := by
  obtain ⟨a1, a2, a3, a4⟩ := a
  obtain ⟨b1, b2, b3, b4⟩ := b
  rw [Bool.eq_iff_iff]
  simp [Bal.mk.injEq, and_assoc]
set_option maxRecDepth 100000 in
theorem run_eq_told (a b : Bool × Bal) (W : World) : (binOp .eql 97 (.agg (toldCells a).toArray) (.agg (toldCells b).toArray)).run Try.prog W = .ok (.bool (decide (a = b))) W := by
  obtain ⟨a0, a1, a2, a3, a4⟩ := a
  obtain ⟨b0, b1, b2, b3, b4⟩ := b
  unfold toldCells Bal.cells
  go_simp
  by_cases h0 : a0 = b0 <;> by_cases h1 : a1 = b1 <;> by_cases h2 : a2 = b2 <;> by_cases h3 : a3 = b3 <;> by_cases h4 : a4 = b4 <;> simp [h0, h1, h2, h3, h4]
end Go.Proofs.Ytaahbfcnccmcoaa
