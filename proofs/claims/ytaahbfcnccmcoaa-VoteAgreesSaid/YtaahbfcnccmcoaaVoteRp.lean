/- The reference's poll in memory. Conditions: as each theorem says. -/
import Derived.Test.YtaahbfcnccmcoaaVoteU
import Derived.Test.YtaahbfcnccmcoaaApt
namespace Go.Proofs.Ytaahbfcnccmcoaa
open Go.RowKit

abbrev RpT : TypeId := 114
abbrev RbT : TypeId := 110
abbrev BoT : TypeId := 4
abbrev InT : TypeId := 3
/-- The document's poll. -/
structure Rp where
  me : Nat
  nodes : Nat
  own : Bal
  round : Int
  now : Bal
  told : List Bool
  what : List Bal
  state : List Int
  whom : List Int
def sl (b : Nat) (n : Nat) : Value := .slice (some ⟨b, 0, none⟩) n n
def rpCells (r : Rp) (vt vw vs vh : Value) : List Value := [.int .i64 r.me, .int .i64 r.nodes, .int .i64 r.own.l, .int .i64 r.own.e, .int .i64 r.own.c, .int .i64 r.own.p, .int .i64 r.round, .int .i64 r.now.l, .int .i64 r.now.e, .int .i64 r.now.c, .int .i64 r.now.p, vt, vw, vs, vh]
def bools (l : List Bool) : List Value := l.map Value.bool
def ints (l : List Int) : List Value := l.map (Value.int .i64)
def bals (l : List Bal) : List Value := l.flatMap Bal.cells
structure Rp.fit (r : Rp) : Prop where
  n1 : 1 ≤ r.nodes
  n7 : r.nodes ≤ 7
  me : r.me < r.nodes
  told : r.told.length = r.nodes
  what : r.what.length = r.nodes
  state : r.state.length = r.nodes
  whom : r.whom.length = r.nodes
/-- Where the states of nodes lie: nowhere yet (they read as nought), or in blocks of their own. -/
def StAt (F : Nat → Prop) (n : Nat) (S H : List Int) (vs vh : Value) (w : World) : Prop :=
  (vs = .slice none 0 0 ∧ vh = .slice none 0 0 ∧ S = List.replicate n 0 ∧ H = List.replicate n 0) ∨
  ∃ bs bh, vs = sl bs n ∧ vh = sl bh n ∧ bs ≠ bh ∧ F bs ∧ F bh ∧ BlkAt bs InT (ints S) w ∧ BlkAt bh InT (ints H) w
structure RpAt (F : Nat → Prop) (g : Nat) (r : Rp) (bt bw : Nat) (vs vh : Value) (w : World) : Prop where
  head : BlkAt g RpT (rpCells r (sl bt r.nodes) (sl bw r.nodes) vs vh) w
  told : BlkAt bt BoT (bools r.told) w
  what : BlkAt bw RbT (bals r.what) w
  st : StAt F r.nodes r.state r.whom vs vh w
  fg : F g
  ft : F bt
  fw : F bw
  lt : ∀ i, F i → i < w.heap.size
/-- The poll behind a call: its states are laid. -/
def RpIn (F : Nat → Prop) (g : Nat) (r : Rp) (w : World) : Prop := ∃ bt bw bs bh, RpAt F g r bt bw (sl bs r.nodes) (sl bh r.nodes) w
def setAt {α : Type} (l : List α) (i : Nat) (x : α) : List α := l.set i x
def voteR (r : Rp) (b : Bal) : Rp := { r with now := b, told := r.told.set r.me true, what := r.what.set r.me b }
def freshR (r : Rp) (n : Int) : Rp := voteR { r with round := n, told := List.replicate r.nodes false, what := List.replicate r.nodes zeroBal } r.own
def beginR (r : Rp) : Rp := { freshR r (r.round + 1) with state := List.replicate r.nodes 0, whom := List.replicate r.nodes 0 }
theorem blk_other {g b : Nat} {T U : TypeId} {cs ds : List Value} {w : World} (h : BlkAt g T cs w) (k : BlkAt b U ds w) (hT : T ≠ U) : g ≠ b := by
  intro e
  subst e
  unfold BlkAt at h k
  rw [h] at k
  simp only [Option.some.injEq, Obj.cells.injEq] at k
  exact hT k.2.1
theorem StAt.apart {F G : Nat → Prop} {n : Nat} {S H : List Int} {vs vh : Value} {w w' : World} (h : StAt F n S H vs vh w) (hA : Apart G w w') (hG : ∀ b, F b → b < w.heap.size → (∃ cs, BlkAt b InT cs w) → ¬ G b) : StAt F n S H vs vh w' := by
  rcases h with h | ⟨bs, bh, h1, h2, h3, h4, h5, h6, h7⟩
  · exact .inl h
  · have l6 := h6.lt
    have l7 := h7.lt
    have k6 := hA.block bs l6 (hG bs h4 l6 ⟨_, h6⟩)
    have k7 := hA.block bh l7 (hG bh h5 l7 ⟨_, h7⟩)
    refine .inr ⟨bs, bh, h1, h2, h3, h4, h5, ?_, ?_⟩
    · unfold BlkAt at *; rw [k6]; exact h6
    · unfold BlkAt at *; rw [k7]; exact h7
end Go.Proofs.Ytaahbfcnccmcoaa
