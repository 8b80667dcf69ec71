/- A region that draws its order, whose calls make memory and change nothing older: one walk in the order of the text serves every order. General laws over the kit's class theorem; no program in sight. Conditions: none. -/
import Derived.WalkKit
import Derived.Lib.Hide
import Derived.Deep.QuietTactic
import Derived.BigQuiet
import Derived.Laws.CopyOwn
namespace Go.Proofs.Yticilbcdpiceaaa
open Go.RowKit

/-- The worlds in which all that was there is as it was. -/
def Grew (w0 W : World) : Prop := Below w0.heap.size w0 W
theorem Grew.refl (w0 : World) : Grew w0 w0 := Below.refl _ _
theorem Grew.drew (w0 : World) : Grew w0 { w0 with drawn := w0.drawn + 1 } := (Below.refl _ w0).drew
theorem Grew.ex (w0 : World) : ∃ W, Grew w0 W := ⟨w0, Grew.refl w0⟩
/-- The walk's rule: what does not speak of the world is so in every world of the class. -/
theorem Grew.all (w0 : World) (p : Prop) : (∀ W, Grew w0 W → p) = p := propext ⟨fun h => h w0 (Grew.refl w0), fun h _ _ => h⟩
theorem Grew.step {w0 W W' : World} (h : Grew w0 W) (b : Below W.heap.size W W') : Grew w0 W' := Below.trans h (b.mono h.size)
theorem Grew.trans {a b c : World} (h : Grew a b) (k : Grew b c) : Grew a c := h.step k
theorem Grew.at_ {w0 W : World} (h : Grew w0 W) {g : Nat} {o : Obj} (hg : w0.heap[g]? = some o) : W.heap[g]? = some o := by
  have hl : g < w0.heap.size := (Array.getElem?_eq_some_iff.1 hg).1
  rw [Below.block h g hl]; exact hg
theorem Grew.cell {w0 W : World} (h : Grew w0 W) {p : Addr} {v : Value} (hc : w0.cell? p = some v) : W.cell? p = some v := by
  have hl := block_lt_of_cell hc
  rw [Below.cell h hl]; exact hc

/-- A call whose contract says 'returned v, nothing older changed'. -/
theorem Calls.grew {P : Program} {f : FuncId} {args : Array Value} {w0 W : World} {v : Value} (hW : Grew w0 W)
    (h : Calls P f args W fun e w' => e = .returned v ∧ Below W.heap.size W w') : Calls P f args W fun e w' => e = .returned v ∧ Grew w0 w' :=
  h.mono fun _ _ ⟨he, hb⟩ => ⟨he, hW.step hb⟩
/-- A call whose contract says 'returned v, the same world'. -/
theorem Calls.grew_same {P : Program} {f : FuncId} {args : Array Value} {w0 W : World} {v : Value} (hW : Grew w0 W)
    (h : Calls P f args W fun e w' => e = .returned v ∧ W = w') : Calls P f args W fun e w' => e = .returned v ∧ Grew w0 w' :=
  h.mono fun _ _ ⟨he, hb⟩ => ⟨he, hb ▸ hW⟩

/-- The region's theorem at this class. -/
theorem wp_region_grew {P : Program} {id : Nat} {Q : Exit → Act → World → Prop} {a : Act} {w : World} {l : List Oper} (hm : P.follows .mixedOrders = true) (hB : Region.lexB .any l.toArray = true)
    (h : wpQuiet P l.toArray (Grew w) (fun a' => ∀ w', Grew w w' → Q .normal a' w') l a) : (Code.region id l.toArray true).wp P Q a w :=
  wp_region_quiet (C := Grew w) hm hB (Grew.drew w) (by simpa using h)

/-- A whole row loaded out of a block that every world of the class has. -/
theorem quiet_load_row {P : Program} {C : World → Prop} {o : Oper} {a : Act} {K : Act → Prop} (ty : TypeId) (x : Operand) (ho : o.op = .load ty x)
    (g : Nat) (hx : a.eval x = .pointer (some ⟨g, 0, none⟩)) (t : TypeId) (cs : Array Value) (fr : Nat × Nat) (d : TypeDesc) (hg : ∀ W, C W → W.heap[g]? = some (.cells cs t fr))
    (hu : P.underlying ty = some d) (hd : (match d with | .struct _ | .array _ _ => true | _ => false) = true) (hi : (P.info? ty).map (·.size) = some cs.size)
    (h : K (a.put o.dst (.agg cs))) : o.quiet P a C K := by
  refine ⟨.agg cs, fun W hW => ?_, h⟩
  unfold Oper.quietAt execOp
  simp only [ho, hx, Instr.loadAt, Instr.sureAddr, Sem.run_bind, Sem.run_pure, Result.andThen_ok, run_loadVar_row W g t ty cs fr d (hg W hW) hu hd hi]
  exact ⟨rfl, rfl⟩
end Go.Proofs.Yticilbcdpiceaaa
