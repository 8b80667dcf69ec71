/- A whole block stored, in a region that draws its order. Conditions: as each theorem says. -/
import Derived.Test.YteoibolompiohaaBlk
import Derived.Deep.MidRow
import Derived.Deep.RegionLaw
namespace Go.Proofs.Yteoibolompiohaa
open Go.RowKit

def setMany : List Value → Nat → List Value → List Value
  | cs, _, [] => cs
  | cs, o, v :: vs => setMany (cs.set o v) (o + 1) vs
theorem setMany_length (vs : List Value) : ∀ (cs : List Value) (o : Nat), (setMany cs o vs).length = cs.length := by
  induction vs with
  | nil => intro cs o; rfl
  | cons v vs ih => intro cs o; rw [setMany, ih]; simp
theorem setMany_right (vs : List Value) : ∀ (A B : List Value) (o : Nat), setMany (A ++ B) (A.length + o) vs = A ++ setMany B o vs := by
  induction vs with
  | nil => intro A B o; rfl
  | cons v vs ih =>
    intro A B o
    rw [setMany, setMany, List.set_append_right _ _ (by omega), show A.length + o - A.length = o by omega, show A.length + o + 1 = A.length + (o + 1) by omega, ih]
theorem setMany_left (vs : List Value) : ∀ (A B : List Value) (o : Nat), o + vs.length ≤ A.length → setMany (A ++ B) o vs = setMany A o vs ++ B := by
  induction vs with
  | nil => intro A B o _; rfl
  | cons v vs ih =>
    intro A B o h
    rw [List.length_cons] at h
    rw [setMany, setMany, List.set_append_left _ _ (by omega), ih _ _ _ (by rw [List.length_set]; omega)]
theorem setMany_cons (a : Value) (B : List Value) (o : Nat) (vs : List Value) : setMany (a :: B) (o + 1) vs = a :: setMany B o vs := by
  have h := setMany_right vs [a] B o
  simp only [List.cons_append, List.nil_append, List.length_cons, List.length_nil] at h
  rw [show o + 1 = 0 + 1 + o by omega]
  exact h
theorem setMany_full (vs : List Value) : ∀ (A : List Value), vs.length = A.length → setMany A 0 vs = vs := by
  induction vs with
  | nil => intro A h; cases A with
    | nil => rfl
    | cons a A => simp at h
  | cons v vs ih =>
    intro A h
    cases A with
    | nil => simp at h
    | cons a A =>
      rw [setMany, List.set_cons_zero, setMany_cons, ih A (by simpa using h)]
theorem BlkAt.sets {g : Nat} {T : TypeId} (vs : List Value) : ∀ {cs : List Value} {w : World} (_ : BlkAt g T cs w) (o : Nat), BlkAt g T (setMany cs o vs) (w.setCells g o vs) := by
  induction vs with
  | nil => intro cs w h o; exact h
  | cons v vs ih => intro cs w h o; exact ih (h.set o v) (o + 1)
theorem grown_sets (g : Nat) (vs : List Value) : ∀ (w : World) (o : Nat), w.grownBy (w.setCells g o vs) (some g) := by
  induction vs with
  | nil => intro w o; exact ⟨rfl, rfl, rfl, Nat.le_refl _, fun _ _ _ => rfl⟩
  | cons v vs ih =>
    intro w o
    have h1 := grown_set w g o v
    have h2 := ih (w.setCell ⟨g, o, none⟩ v) (o + 1)
    exact ⟨by rw [show w.setCells g o (v :: vs) = (w.setCell ⟨g, o, none⟩ v).setCells g (o + 1) vs from rfl, h2.os, h1.os], by rw [show w.setCells g o (v :: vs) = (w.setCell ⟨g, o, none⟩ v).setCells g (o + 1) vs from rfl, h2.tape, h1.tape], by rw [show w.setCells g o (v :: vs) = (w.setCell ⟨g, o, none⟩ v).setCells g (o + 1) vs from rfl, h2.output, h1.output], Nat.le_trans h1.size h2.size, fun k hk hne => by
      rw [show w.setCells g o (v :: vs) = (w.setCell ⟨g, o, none⟩ v).setCells g (o + 1) vs from rfl, h2.block k (Nat.lt_of_lt_of_le hk h1.size) hne, h1.block k hk hne]⟩
/-- A whole block stored: the operation, in a region that draws its order. -/
theorem step_store_blk {P : Program} {ops : Array Oper} {o : Oper} {a : Act} {w : World} {K : Act → World → Prop} {Q : Exit → Act → World → Prop} {E : Prop} (hgd : o.guard = none) (ty : TypeId) (x y : Operand) (ho : o.op = .store ty x y)
    (g : Nat) (T : TypeId) (cs cs' : List Value) (hx : a.eval x = .pointer (some ⟨g, 0, none⟩)) (hy : a.eval y = .agg cs'.toArray) (hb : BlkAt g T cs w) (hl : cs'.length = cs.length) (hi : (P.info? ty).map (·.size) = some cs'.length)
    (h1 : ∀ v ∈ cs', v.oneCell' = true) (h : ∀ w', BlkAt g T cs' w' → w.grownBy w' (some g) → K (a.put o.dst undef) w') :
    if Region.wanted o (yielded ops a.tmps) = true then Oper.wp P o a w K Q else E := by
  rw [if_pos (by simp [Region.wanted, hgd])]
  refine wp_store_mid ty x y ho g 0 cs'.toArray hx hy (hb.there 0 _ (by simp; omega)) (by simpa using hi) (all_oneCell_toArray h1) (h _ ?_ (grown_sets _ _ _ _))
  have := hb.sets cs' 0
  rw [setMany_full _ _ hl] at this
  exact this
theorem wpList_store_blk {P : Program} {ops : Array Oper} {rest : List Oper} {o : Oper} {a : Act} {w : World} {Q : Exit → Act → World → Prop} (hgd : o.guard = none) (ty : TypeId) (x y : Operand) (ho : o.op = .store ty x y)
    (g : Nat) (T : TypeId) (cs cs' : List Value) (hx : a.eval x = .pointer (some ⟨g, 0, none⟩)) (hy : a.eval y = .agg cs'.toArray) (hb : BlkAt g T cs w) (hl : cs'.length = cs.length) (hi : (P.info? ty).map (·.size) = some cs'.length)
    (h1 : ∀ v ∈ cs', v.oneCell' = true) (h : ∀ w', BlkAt g T cs' w' → w.grownBy w' (some g) → wpList P ops Q rest (a.put o.dst undef) w') : wpList P ops Q (o :: rest) a w := by
  refine wpList_store_mid hgd ty x y ho g 0 cs'.toArray hx hy (hb.there 0 _ (by simp; omega)) (by simpa using hi) (all_oneCell_toArray h1) (h _ ?_ (grown_sets _ _ _ _))
  have := hb.sets cs' 0
  rw [setMany_full _ _ hl] at this
  exact this
theorem run_load_blk {P : Program} {w : World} {g : Nat} {T : TypeId} {cs : List Value} (h : BlkAt g T cs w) (d : TypeDesc) (hu : P.underlying T = some d) (hd : (match d with | .struct _ | .array _ _ => true | _ => false) = true) (hi : (P.info? T).map (·.size) = some cs.length) :
    (loadVar T ⟨g, 0, none⟩).run P w = .ok (.agg cs.toArray) w := run_loadVar_row w g T T cs.toArray (0, 0) d h hu hd (by simpa using hi)
theorem results_cell {fn : Func} {s : Tmp} {T : TypeId} (h : fn.results = #[.cell s T]) (tmps : Array Value) (P : Program) (w : World) (p : Addr) (v : Value) (hp : tmps.getD s undef = .pointer (some p)) (hl : (loadVar T p).run P w = .ok v w) :
    (results fn tmps).run P w = .ok v w := by
  have hp' : tmps[s]?.getD undef = .pointer (some p) := by simpa using hp
  unfold results
  simp [h, asAddr, hp', hl]
end Go.Proofs.Yteoibolompiohaa
