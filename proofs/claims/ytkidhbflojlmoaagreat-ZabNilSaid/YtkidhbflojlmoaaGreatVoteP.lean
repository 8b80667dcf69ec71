/- Blocks known as lists of cells; a poll and its cells. Conditions: as each theorem says. -/
import Derived.Test.YtkidhbflojlmoaaGreatHistA
import Derived.Deep.MidRow
import Derived.Lib.EndianMore
namespace Go.Proofs.YtkidhbflojlmoaaGreat
open Go.RowKit

/-! Lists: many set at once. -/
def setMany : List Value → Nat → List Value → List Value
  | cs, _, [] => cs
  | cs, o, v :: vs => setMany (cs.set o v) (o + 1) vs
theorem setMany_length (vs : List Value) : ∀ (cs : List Value) (o : Nat), (setMany cs o vs).length = cs.length := by
  induction vs with
  | nil => intro cs o; rfl
  | cons v vs ih => intro cs o; rw [setMany, ih]; simp
theorem setMany_right (vs : List Value) : ∀ (A B : List Value) (o : Nat), setMany (A ++ B) (A.length + o) vs = A ++ setMany B o vs := by
  induction vs with
  | nil => intro A B o; rfl
  | cons v vs ih =>
    intro A B o
    rw [setMany, setMany, List.set_append_right _ _ (by omega), show A.length + o - A.length = o by omega, show A.length + o + 1 = A.length + (o + 1) by omega, ih]
theorem setMany_left (vs : List Value) : ∀ (A B : List Value) (o : Nat), o + vs.length ≤ A.length → setMany (A ++ B) o vs = setMany A o vs ++ B := by
  induction vs with
  | nil => intro A B o _; rfl
  | cons v vs ih =>
    intro A B o h
    rw [List.length_cons] at h
    rw [setMany, setMany, List.set_append_left _ _ (by omega), ih _ _ _ (by rw [List.length_set]; omega)]
theorem setMany_cons (a : Value) (B : List Value) (o : Nat) (vs : List Value) : setMany (a :: B) (o + 1) vs = a :: setMany B o vs := by
  have h := setMany_right vs [a] B o
  simp only [List.cons_append, List.nil_append, List.length_cons, List.length_nil] at h
  rw [show o + 1 = 0 + 1 + o by omega]
  exact h
theorem setMany_full (vs : List Value) : ∀ (A : List Value), vs.length = A.length → setMany A 0 vs = vs := by
  induction vs with
  | nil => intro A h; cases A with
    | nil => rfl
    | cons a A => simp at h
  | cons v vs ih =>
    intro A h
    cases A with
    | nil => simp at h
    | cons a A =>
      rw [setMany, List.set_cons_zero, setMany_cons, ih A (by simpa using h)]
theorem setMany_flat {α : Type} (f : α → List Value) (k : Nat) (hf : ∀ x, (f x).length = k) (t : α) : ∀ (M : List α) (i : Nat), i < M.length → setMany (M.flatMap f) (i * k) (f t) = (M.set i t).flatMap f := by
  intro M
  induction M with
  | nil => intro i h; simp at h
  | cons a M ih =>
    intro i h
    cases i with
    | zero =>
      rw [Nat.zero_mul, List.flatMap_cons, setMany_left _ _ _ _ (by rw [hf, hf]; omega), setMany_full _ _ (by rw [hf, hf]), List.set_cons_zero, List.flatMap_cons]
    | succ i =>
      have e : (i + 1) * k = (f a).length + i * k := by rw [hf, Nat.succ_mul]; omega
      rw [List.flatMap_cons, e, setMany_right, ih i (by simpa using h), List.set_cons_succ, List.flatMap_cons]
theorem flat_get {α : Type} (f : α → List Value) (k : Nat) (hf : ∀ x, (f x).length = k) : ∀ (M : List α) (i j : Nat) (hi : i < M.length), j < k → (M.flatMap f)[i * k + j]? = (f M[i])[j]? := by
  intro M
  induction M with
  | nil => intro i j hi; simp at hi
  | cons a M ih =>
    intro i j hi hj
    rw [List.flatMap_cons]
    cases i with
    | zero => rw [List.getElem?_append_left (by rw [hf]; omega)]; simp
    | succ i =>
      have e : (i + 1) * k + j = (f a).length + (i * k + j) := by rw [hf, Nat.succ_mul]; omega
      rw [e, List.getElem?_append_right (by omega), show (f a).length + (i * k + j) - (f a).length = i * k + j by omega, ih i j (by simpa using hi) hj]
      simp
theorem flat_length {α : Type} (f : α → List Value) (k : Nat) (hf : ∀ x, (f x).length = k) (M : List α) : (M.flatMap f).length = M.length * k := by
  induction M with
  | nil => simp
  | cons a M ih => rw [List.flatMap_cons, List.length_append, ih, hf, List.length_cons, Nat.succ_mul]; omega

/-! Blocks. -/
def BlkAt (g : Nat) (T : TypeId) (cs : List Value) (w : World) : Prop := w.heap[g]? = some (.cells cs.toArray T (0, 0))
theorem BlkAt.cell {g : Nat} {T : TypeId} {cs : List Value} {w : World} (h : BlkAt g T cs w) {i : Nat} {v : Value} (hv : cs[i]? = some v) : w.cell? ⟨g, i, none⟩ = some v := by
  rw [Lib.cell_of_heap h]; simpa using hv
theorem BlkAt.frozen {g : Nat} {T : TypeId} {cs : List Value} {w : World} (h : BlkAt g T cs w) (i : Nat) : w.frozen? ⟨g, i, none⟩ = false := Lib.frozen_of_heap h i
theorem BlkAt.set {g : Nat} {T : TypeId} {cs : List Value} {w : World} (h : BlkAt g T cs w) (i : Nat) (v : Value) : BlkAt g T (cs.set i v) (w.setCell ⟨g, i, none⟩ v) := by
  have := Lib.heap_setCell_same (i := i) h v
  simpa [BlkAt] using this
theorem BlkAt.sets {g : Nat} {T : TypeId} (vs : List Value) : ∀ {cs : List Value} {w : World} (_ : BlkAt g T cs w) (o : Nat), BlkAt g T (setMany cs o vs) (w.setCells g o vs) := by
  induction vs with
  | nil => intro cs w h o; exact h
  | cons v vs ih => intro cs w h o; exact ih (h.set o v) (o + 1)
theorem BlkAt.grew {g : Nat} {T : TypeId} {cs : List Value} {w w' : World} (h : BlkAt g T cs w) (hb : Below w.heap.size w w') : BlkAt g T cs w' := Grew.at_ hb h
theorem BlkAt.drew {g : Nat} {T : TypeId} {cs : List Value} {w : World} (h : BlkAt g T cs w) : BlkAt g T cs w.drew := h
theorem BlkAt.lt {g : Nat} {T : TypeId} {cs : List Value} {w : World} (h : BlkAt g T cs w) : g < w.heap.size := (Array.getElem?_eq_some_iff.1 h).1
theorem BlkAt.range {g : Nat} {T : TypeId} {cs : List Value} {w : World} (h : BlkAt g T cs w) (o : Nat) (vs : List Value) (hv : ∀ j, j < vs.length → cs[o + j]? = vs[j]?) : w.rangeAt g o vs := by
  intro j v hj
  have hlt := (List.getElem?_eq_some_iff.1 hj).1
  exact h.cell (by rw [hv j hlt]; exact hj)
theorem BlkAt.there {g : Nat} {T : TypeId} {cs : List Value} {w : World} (h : BlkAt g T cs w) (o n : Nat) (hn : o + n ≤ cs.length) : w.there g o n := by
  intro j hj
  refine ⟨?_, h.frozen _⟩
  rw [h.cell (v := cs[o + j]'(by omega)) (by simp [show o + j < cs.length by omega])]
  rfl
theorem BlkAt.alloc_new (w : World) (cs : List Value) (T : TypeId) : BlkAt w.heap.size T cs (w.alloc (.cells cs.toArray T)) := heap_alloc_new w _

/-! A poll. -/
structure Bal where
  l : Int
  e : Int
  c : Int
  p : Int
deriving DecidableEq, Inhabited
def Bal.cells (b : Bal) : List Value := [.int .i64 b.l, .int .i64 b.e, .int .i64 b.c, .int .i64 b.p]
def toldCells (t : Bool × Bal) : List Value := .bool t.1 :: t.2.cells
def decCells (d : Int × Int) : List Value := [.int .i64 d.1, .int .i64 d.2]
structure Poll where
  me : Nat
  nodes : Nat
  own : Bal
  round : Int
  now : Bal
  told : List (Bool × Bal)
  dec : List (Int × Int)
def zeroBal : Bal := ⟨0, 0, 0, 0⟩
def noTold : List (Bool × Bal) := List.replicate 7 (false, zeroBal)
def noDec : List (Int × Int) := List.replicate 7 (0, 0)
def pollHead (p : Poll) : List Value := [.int .i64 p.me, .int .i64 p.nodes, .int .i64 p.own.l, .int .i64 p.own.e, .int .i64 p.own.c, .int .i64 p.own.p, .int .i64 p.round, .int .i64 p.now.l, .int .i64 p.now.e, .int .i64 p.now.c, .int .i64 p.now.p]
def pollCells (p : Poll) : List Value := pollHead p ++ (p.told.flatMap toldCells ++ p.dec.flatMap decCells)
/-- What holds of every poll that New made. -/
structure Poll.fit (p : Poll) : Prop where
  nodes1 : 1 ≤ p.nodes
  nodes7 : p.nodes ≤ 7
  me : p.me < p.nodes
  told : p.told.length = 7
  dec : p.dec.length = 7
def PollAt (g : Nat) (p : Poll) (w : World) : Prop := BlkAt g 139 (pollCells p) w
theorem toldCells_length (t : Bool × Bal) : (toldCells t).length = 5 := rfl
theorem decCells_length (d : Int × Int) : (decCells d).length = 2 := rfl
theorem pollCells_length (p : Poll) (h : p.fit) : (pollCells p).length = 60 := by
  unfold pollCells
  rw [List.length_append, List.length_append, flat_length _ 5 toldCells_length, flat_length _ 2 decCells_length, h.told, h.dec]; rfl
theorem poll_told (p : Poll) (i j : Nat) (hi : i < p.told.length) (hj : j < 5) : (pollCells p)[11 + i * 5 + j]? = (toldCells p.told[i])[j]? := by
  have hl := flat_length _ 5 toldCells_length p.told
  unfold pollCells
  rw [List.getElem?_append_right (by show 11 ≤ _; omega), show 11 + i * 5 + j - (pollHead p).length = i * 5 + j by show _ - 11 = _; omega, List.getElem?_append_left (by omega), flat_get _ 5 toldCells_length _ _ _ hi hj]
theorem poll_dec (p : Poll) (i j : Nat) (ht : p.told.length = 7) (hi : i < p.dec.length) (hj : j < 2) : (pollCells p)[46 + i * 2 + j]? = (decCells p.dec[i])[j]? := by
  have hl := flat_length _ 5 toldCells_length p.told
  unfold pollCells
  rw [List.getElem?_append_right (by show 11 ≤ _; omega), List.getElem?_append_right (by rw [hl, ht]; show 35 ≤ _ - 11; omega), hl, ht, show 46 + i * 2 + j - (pollHead p).length - 7 * 5 = i * 2 + j by show _ - 11 - _ = _; omega, flat_get _ 2 decCells_length _ _ _ hi hj]
theorem poll_setTold (p : Poll) (i : Nat) (hi : i < p.told.length) (t : Bool × Bal) : setMany (pollCells p) (11 + i * 5) (toldCells t) = pollCells { p with told := p.told.set i t } := by
  have hl := flat_length _ 5 toldCells_length p.told
  unfold pollCells
  rw [show 11 + i * 5 = (pollHead p).length + i * 5 from rfl, setMany_right, setMany_left _ _ _ _ (by rw [hl, toldCells_length]; omega), setMany_flat _ 5 toldCells_length _ _ _ hi]
  rfl
theorem poll_setDec (p : Poll) (i : Nat) (ht : p.told.length = 7) (hi : i < p.dec.length) (d : Int × Int) : setMany (pollCells p) (46 + i * 2) (decCells d) = pollCells { p with dec := p.dec.set i d } := by
  have hl := flat_length _ 5 toldCells_length p.told
  unfold pollCells
  rw [show 46 + i * 2 = (pollHead p).length + (35 + i * 2) by show _ = 11 + _; omega, setMany_right, show 35 + i * 2 = (p.told.flatMap toldCells).length + i * 2 by rw [hl, ht], setMany_right, setMany_flat _ 2 decCells_length _ _ _ hi]
  rfl
theorem poll_clearTold (p : Poll) (ht : p.told.length = 7) : setMany (pollCells p) 11 (noTold.flatMap toldCells) = pollCells { p with told := noTold } := by
  have hl := flat_length _ 5 toldCells_length p.told
  unfold pollCells
  rw [show 11 = (pollHead p).length + 0 from rfl, setMany_right, setMany_left _ _ _ _ (by rw [hl, ht]; decide), setMany_full _ _ (by rw [hl, ht]; rfl)]
  rfl
theorem poll_clearDec (p : Poll) (ht : p.told.length = 7) (hd : p.dec.length = 7) : setMany (pollCells p) 46 (noDec.flatMap decCells) = pollCells { p with dec := noDec } := by
  have hl := flat_length _ 5 toldCells_length p.told
  have hl2 := flat_length _ 2 decCells_length p.dec
  unfold pollCells
  rw [show 46 = (pollHead p).length + 35 from rfl, setMany_right, show 35 = (p.told.flatMap toldCells).length + 0 by rw [hl, ht], setMany_right, setMany_full _ _ (by rw [hl2, hd]; rfl)]
  rfl
theorem poll_setNow (p : Poll) (b : Bal) : setMany (pollCells p) 7 b.cells = pollCells { p with now := b } := rfl
theorem poll_setRound (p : Poll) (r : Int) : (pollCells p).set 6 (.int .i64 r) = pollCells { p with round := r } := rfl
end Go.Proofs.YtkidhbflojlmoaaGreat
