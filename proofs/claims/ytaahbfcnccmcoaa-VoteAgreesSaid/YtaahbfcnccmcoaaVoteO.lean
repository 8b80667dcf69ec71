/- How the votes' arguments are opened: a vote, who one is, calls in memory. Conditions: as each theorem says. -/
import Derived.Test.YtaahbfcnccmcoaaVoteI
namespace Go.Proofs.Ytaahbfcnccmcoaa
open Go.RowKit

def votCells (v : Vot) : List Value := [.int .i64 v.b.l, .int .i64 v.b.e, .int .i64 v.b.c, .int .i64 v.b.p, .int .i64 v.round, .int .i64 v.state]
structure OpS where
  b : Bool
  f : Int
  v : Vot
deriving Inhabited
def opCells (o : OpS) : List Value := .bool o.b :: .int .i64 o.f :: votCells o.v
theorem opCells_length (o : OpS) : (opCells o).length = 8 := rfl
section
open Go.WideShapes Go.ChangeShapes
variable {H : Type} {enc : TypeId × Value → H} {w : World} {base : Nat} {spare : Nat → Bool} {held : Bool}
set_option maxRecDepth 100000 in
theorem ci : Try.prog.cellsOf 3 = 1 := by kernel_rfl
set_option maxRecDepth 100000 in
theorem cb : Try.prog.cellsOf 4 = 1 := by kernel_rfl
set_option maxRecDepth 100000 in
theorem cz : Try.prog.cellsOf 24 = 2 := by kernel_rfl
set_option maxRecDepth 100000 in
theorem cvote : Try.prog.cellsOf 55 = 6 := by kernel_rfl
set_option maxRecDepth 100000 in
theorem cwho : Try.prog.cellsOf 48 = 5 := by kernel_rfl
set_option maxRecDepth 100000 in
theorem cop : Try.prog.cellsOf 58 = 8 := by kernel_rfl
set_option maxRecDepth 100000 in
theorem zx_cells {fuel : Nat} {cs : List Value} {x : DataW H × List MemPlace} (h : DataW.trod enc Try.prog w base spare held fuel 24 cs = some x) : ∃ a b : Int, cs = [.int .i64 a, .int .i64 b] := by
  obtain ⟨xs, n, _, _, hl, hlen, hg⟩ := DataW.trod_struct Try.underlying24 h
  rw [cz] at hl
  match cs, hl, xs, hlen with
  | [c0, c1], _, [y0, y1], _ =>
    obtain ⟨a, e0, _, _⟩ := DataW.trod_int Try.underlying3 (by simpa using hg 0 _ rfl)
    obtain ⟨b, e1, _, _⟩ := DataW.trod_int Try.underlying3 (by simpa using hg 1 _ rfl)
    rw [ci] at e0 e1
    simp at e0 e1
    subst e0 e1
    exact ⟨a, b, rfl⟩
set_option maxRecDepth 100000 in
theorem vot_cells {fuel : Nat} {cs : List Value} {x : DataW H × List MemPlace} (h : DataW.trod enc Try.prog w base spare held fuel 55 cs = some x) : ∃ v : Vot, cs = votCells v := by
  obtain ⟨xs, n, _, _, hl, hlen, hg⟩ := DataW.trod_struct Try.underlying55 h
  rw [cvote] at hl
  match cs, hl, xs, hlen with
  | [c0, c1, c2, c3, c4, c5], _, [y0, y1, y2, y3, y4], _ =>
    obtain ⟨a, e0, _, _⟩ := DataW.trod_int Try.underlying3 (by simpa using hg 0 _ rfl)
    obtain ⟨b, c, e1⟩ := zx_cells (x := y1) (by simpa using hg 1 _ rfl)
    obtain ⟨d, e2, _, _⟩ := DataW.trod_int Try.underlying3 (by simpa using hg 2 _ rfl)
    obtain ⟨e, e3, _, _⟩ := DataW.trod_int Try.underlying3 (by simpa using hg 3 _ rfl)
    obtain ⟨f, e4, _, _⟩ := DataW.trod_int Try.underlying3 (by simpa using hg 4 _ rfl)
    rw [ci] at e0 e2 e3 e4
    rw [cz] at e1
    simp at e0 e1 e2 e3 e4
    obtain ⟨rfl, rfl⟩ := e1
    subst e0 e2 e3 e4
    exact ⟨⟨⟨a, b, c, d⟩, e, f⟩, rfl⟩
set_option maxRecDepth 100000 in
theorem op_cells {fuel : Nat} {cs : List Value} {x : DataW H × List MemPlace} (h : DataW.trod enc Try.prog w base spare held fuel 58 cs = some x) : ∃ o : OpS, cs = opCells o := by
  obtain ⟨xs, n, _, _, hl, hlen, hg⟩ := DataW.trod_struct Try.underlying58 h
  rw [cop] at hl
  match cs, hl, xs, hlen with
  | [c0, c1, c2, c3, c4, c5, c6, c7], _, [y0, y1, y2], _ =>
    obtain ⟨a, e0, _⟩ := DataW.trod_bool Try.underlying4 (by simpa using hg 0 _ rfl)
    obtain ⟨b, e1, _, _⟩ := DataW.trod_int Try.underlying3 (by simpa using hg 1 _ rfl)
    obtain ⟨v, e2⟩ := vot_cells (x := y2) (by simpa using hg 2 _ rfl)
    rw [cb] at e0
    rw [ci] at e1
    rw [cvote] at e2
    simp [votCells] at e0 e1 e2
    obtain ⟨rfl, rfl, rfl, rfl, rfl, rfl⟩ := e2
    subst e0 e1
    exact ⟨⟨a, b, v⟩, rfl⟩
end
set_option maxRecDepth 100000 in
open Go.WideShapes Go.ChangeShapes in
theorem open_vot {H : Type} {enc : TypeId × Value → H} {w : World} {r : Reach} {base : Nat} {v : Value} {d : DataW H} {p : List MemPlace}
    (hv : Value.okWide Try.prog w r base 55 v) (h : DataW.Trod enc Try.prog w 0 (fun _ => true) true 55 v d p) : IsVot v := by
  obtain ⟨cs, rfl, hsz⟩ := okWide_struct Try.underlying55 hv
  obtain ⟨fuel, hf⟩ := h
  obtain ⟨x, hx⟩ := vot_cells hf
  refine ⟨x, ?_⟩
  have : cs.toList = votCells x := hx
  unfold votV
  rw [show cs = cs.toList.toArray by simp, this]
  rfl
/-- Who one is. -/
structure WhoS where
  me : Int
  nodes : Int
  z : Int × Int
  ep : Int
def whoV (x : WhoS) : Value := .agg #[.int .i64 x.me, .int .i64 x.nodes, .int .i64 x.z.1, .int .i64 x.z.2, .int .i64 x.ep]
def IsWho (v : Value) : Prop := ∃ x : WhoS, v = whoV x
set_option maxRecDepth 100000 in
open Go.WideShapes Go.ChangeShapes in
theorem open_who {H : Type} {enc : TypeId × Value → H} {w : World} {r : Reach} {base : Nat} {v : Value} {d : DataW H} {p : List MemPlace}
    (hv : Value.okWide Try.prog w r base 48 v) (h : DataW.Trod enc Try.prog w 0 (fun _ => true) true 48 v d p) : IsWho v := by
  obtain ⟨cs, rfl, hsz⟩ := okWide_struct Try.underlying48 hv
  obtain ⟨fuel, hf⟩ := h
  obtain ⟨xs, n, _, _, hl, hlen, hg⟩ := DataW.trod_struct Try.underlying48 hf
  rw [cwho] at hl
  obtain ⟨l⟩ := cs
  match l, hl, xs, hlen with
  | [c0, c1, c2, c3, c4], _, [y0, y1, y2, y3], _ =>
    obtain ⟨a, e0, _, _⟩ := DataW.trod_int Try.underlying3 (by simpa using hg 0 _ rfl)
    obtain ⟨b, e1, _, _⟩ := DataW.trod_int Try.underlying3 (by simpa using hg 1 _ rfl)
    obtain ⟨c, c', e2⟩ := zx_cells (x := y2) (by simpa using hg 2 _ rfl)
    obtain ⟨e, e3, _, _⟩ := DataW.trod_int Try.underlying3 (by simpa using hg 3 _ rfl)
    rw [ci] at e0 e1 e3
    rw [cz] at e2
    simp [Value.cells] at e0 e1 e2 e3
    obtain ⟨rfl, rfl⟩ := e2
    subst e0 e1 e3
    exact ⟨⟨a, b, (c, c'), e⟩, rfl⟩
/-- The slice value v reads as the calls L. -/
def OpsAt (w : World) (v : Value) (L : List OpS) : Prop :=
  ∃ a cap, v = .slice a L.length cap ∧ ∀ i (hi : i < L.length), ∃ b off, a = some ⟨b, off, none⟩ ∧ w.rangeAt b (off + i * 8) (opCells L[i])
theorem range_grew {w w' : World} {b o : Nat} {cs : List Value} (h : w.rangeAt b o cs) (hb : Below w.heap.size w w') : w'.rangeAt b o cs := fun j v hj => Grew.cell hb (h j v hj)
theorem OpsAt.grew {w w' : World} {v : Value} {L : List OpS} (h : OpsAt w v L) (hb : Below w.heap.size w w') : OpsAt w' v L := by
  obtain ⟨a, cap, hv, hc⟩ := h
  refine ⟨a, cap, hv, fun i hi => ?_⟩
  obtain ⟨b, off, h1, h2⟩ := hc i hi
  exact ⟨b, off, h1, range_grew h2 hb⟩
theorem ops_get {w : World} {a : Option Addr} {n cap : Nat} {L : List OpS} (h : OpsAt w (.slice a n cap) L) (i : Nat) (hi : i < L.length) :
    ∃ b off, a = some ⟨b, off, none⟩ ∧ w.rangeAt b (off + i * 8) (opCells L[i]) := by
  obtain ⟨a', cap', hv, hc⟩ := h
  simp only [Value.slice.injEq] at hv
  obtain ⟨rfl, _, _⟩ := hv
  exact hc i hi
def IsOps (w : World) (v : Value) : Prop := ∃ (L : List OpS) (a : Option Addr) (cap : Nat), v = .slice a L.length cap ∧ L.length ≤ cap ∧ cap ≤ maxLen ∧ OpsAt w v L
set_option maxRecDepth 100000 in
open Go.WideShapes Go.ChangeShapes in
theorem open_ops {H : Type} {enc : TypeId × Value → H} {w : World} {r : Reach} {base : Nat} {v : Value} {d : DataW H} {p : List MemPlace}
    (hv : Value.okWide Try.prog w r base 49 v) (h : DataW.Trod enc Try.prog w 0 (fun _ => true) true 49 v d p) : IsOps w v := by
  obtain ⟨a0, len, cap, rfl⟩ := okWide_slice Try.underlying49 hv
  obtain ⟨fuel, hf⟩ := h
  rcases Go.Deep.open_slice Try.underlying49 hf with ⟨hcs, _⟩ | ⟨a, len', cap', m, n, D, Pl, hcs, _, hl, hm, hmm, _, hx⟩
  · simp [Value.cells] at hcs
    obtain ⟨rfl, rfl, rfl⟩ := hcs
    exact ⟨[], none, 0, rfl, by simp, by simp, ⟨none, 0, rfl, fun i hi => by simp at hi⟩⟩
  · simp [Value.cells] at hcs
    obtain ⟨rfl, rfl, rfl⟩ := hcs
    simp only [if_true] at hmm
    subst hmm
    obtain ⟨b, off, spot⟩ := a
    have each : ∀ i, i < len → ∃ x : OpS, (i = 0 → spot = none) ∧ w.rangeAt b (off + i * 8) (opCells x) := by
      intro i hi
      obtain ⟨cs', h1, h2⟩ := hx i (by omega)
      rw [cop] at h1
      obtain ⟨_, hlen, hcell⟩ := World.cells?_some h1
      obtain ⟨x, rfl⟩ := op_cells h2
      have e0 := hcell 0 (by omega)
      rw [Go.Deep.add_add] at e0
      have hsp : i = 0 → spot = none := by
        intro h0
        subst h0
        cases spot with
        | none => rfl
        | some x =>
          simp [World.cell?, Addr.add] at e0
          split at e0 <;> simp [opCells] at e0
      have ha : ∀ j, (⟨b, off, spot⟩ : Addr).add (i * 8 + j) = ⟨b, off + i * 8 + j, none⟩ := by
        intro j
        by_cases hj : i * 8 + j = 0
        · have hi0 : i = 0 := by omega
          have hj0 : j = 0 := by omega
          rw [hsp hi0, hi0, hj0]; rfl
        · unfold Addr.add; rw [if_neg hj]; simp; omega
      refine ⟨x, hsp, fun j v hj => ?_⟩
      have hlt : j < 8 := (List.getElem?_eq_some_iff.1 hj).1
      have := hcell j hlt
      rw [Go.Deep.add_add, ha] at this
      rw [this]
      exact hj
    obtain ⟨q, hq⟩ := Go.Deep.choose_lt each
    have hL : ((List.range len).map q).length = len := by simp
    refine ⟨(List.range len).map q, some ⟨b, off, spot⟩, m, by rw [hL], by rw [hL]; exact hl, hm, ⟨some ⟨b, off, spot⟩, m, by rw [hL], fun i hi => ?_⟩⟩
    rw [hL] at hi
    obtain ⟨_, hc⟩ := hq i hi
    have hs := (hq 0 (by omega)).1 rfl
    refine ⟨b, off, by rw [hs], ?_⟩
    simpa using hc
/-- THE LAW VoteNil. -/
theorem voteNil_walk (W : World) (a0 : Int) (v1 : Value) (w0 : (Lit.int .i64 a0).wf = true) (h1 : IsVot v1) :
    Calls Try.prog 10 #[.int .i64 a0, v1] W fun e w' => e = .returned (.bool true) ∧ Below W.heap.size W w' := by
  obtain ⟨x, rfl⟩ := h1
  exact nil_any a0 x W
end Go.Proofs.Ytaahbfcnccmcoaa
