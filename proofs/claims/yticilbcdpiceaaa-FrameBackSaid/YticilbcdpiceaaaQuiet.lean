/- A region that draws its order, whose calls make memory and change nothing older: one walk in the order of the text serves every order. General laws over the kit's class theorem; no program in sight. Conditions: none. -/
import Derived.WalkKit
import Derived.Lib.Hide
import Derived.Deep.QuietTactic
import Derived.BigQuiet
import Derived.Laws.CopyOwn
namespace Go.Proofs.Yticilbcdpiceaaa
open Go.RowKit

/-- The worlds in which all that was there is as it was. -/
def Grew (w0 W : World) : Prop := Below w0.heap.size w0 W
theorem Grew.refl (w0 : World) : Grew w0 w0 := Below.refl _ _
theorem Grew.drew (w0 : World) : Grew w0 { w0 with drawn := w0.drawn + 1 } := (Below.refl _ w0).drew
theorem Grew.ex (w0 : World) : ∃ W, Grew w0 W := ⟨w0, Grew.refl w0⟩
/-- The walk's rule: what does not speak of the world is so in every world of the class. -/
theorem Grew.all (w0 : World) (p : Prop) : (∀ W, Grew w0 W → p) = p := propext ⟨fun h => h w0 (Grew.refl w0), fun h _ _ => h⟩
theorem Grew.step {w0 W W' : World} (h : Grew w0 W) (b : Below W.heap.size W W') : Grew w0 W' := Below.trans h (b.mono h.size)
theorem Grew.trans {a b c : World} (h : Grew a b) (k : Grew b c) : Grew a c := h.step k
theorem Grew.at_ {w0 W : World} (h : Grew w0 W) {g : Nat} {o : Obj} (hg : w0.heap[g]? = some o) : W.heap[g]? = some o := by
  have hl : g < w0.heap.size := (Array.getElem?_eq_some_iff.1 hg).1
  rw [Below.block h g hl]; exact hg
theorem Grew.cell {w0 W : World} (h : Grew w0 W) {p : Addr} {v : Value} (hc : w0.cell? p = some v) : W.cell? p = some v := by
  have hl := block_lt_of_cell hc
  rw [Below.cell h hl]; exact hc

/-- A call whose contract says 'returned v, nothing older changed'. -/
theorem Calls.grew {P : Program} {f : FuncId} {args : Array Value} {w0 W : World} {v : Value} (hW : Grew w0 W)
    (h : Calls P f args W fun e w' => e = .returned v ∧ Below W.heap.size W w') : Calls P f args W fun e w' => e = .returned v ∧ Grew w0 w' :=
  h.mono fun _ _ ⟨he, hb⟩ => ⟨he, hW.step hb⟩
/-- A call whose contract says 'returned v, the same world'. -/
theorem Calls.grew_same {P : Program} {f : FuncId} {args : Array Value} {w0 W : World} {v : Value} (hW : Grew w0 W)
    (h : Calls P f args W fun e w' => e = .returned v ∧ W = w') : Calls P f args W fun e w' => e = .returned v ∧ Grew w0 w' :=
  h.mono fun _ _ ⟨he, hb⟩ => ⟨he, hb ▸ hW⟩

/-- The region's theorem at this class. -/
theorem wp_region_grew {P : Program} {id : Nat} {Q : Exit → Act → World → Prop} {a : Act} {w : World} {l : List Oper} (hm : P.follows .mixedOrders = true) (hB : Region.lexB .any l.toArray = true)
    (h : wpQuiet P l.toArray (Grew w) (fun a' => ∀ w', Grew w w' → Q .normal a' w') l a) : (Code.region id l.toArray true).wp P Q a w :=
  wp_region_quiet (C := Grew w) hm hB (Grew.drew w) (by simpa using h)

/-- A whole row loaded out of a block that every world of the class has. -/
theorem quiet_load_row {P : Program} {C : World → Prop} {o : Oper} {a : Act} {K : Act → Prop} (ty : TypeId) (x : Operand) (ho : o.op = .load ty x)
    (g : Nat) (hx : a.eval x = .pointer (some ⟨g, 0, none⟩)) (t : TypeId) (cs : Array Value) (fr : Nat × Nat) (d : TypeDesc) (hg : ∀ W, C W → W.heap[g]? = some (.cells cs t fr))
    (hu : P.underlying ty = some d) (hd : (match d with | .struct _ | .array _ _ => true | _ => false) = true) (hi : (P.info? ty).map (·.size) = some cs.size)
    (h : K (a.put o.dst (.agg cs))) : o.quiet P a C K := by
  refine ⟨.agg cs, fun W hW => ?_, h⟩
  unfold Oper.quietAt execOp
  simp only [ho, hx, Instr.loadAt, Instr.sureAddr, Sem.run_bind, Sem.run_pure, Result.andThen_ok, run_loadVar_row W g t ty cs fr d (hg W hW) hu hd hi]
  exact ⟨rfl, rfl⟩

/-- Behind a write to an owned row: a block of another element type stays. -/
theorem kept_other {w w' : World} {base e size n : Nat} {v : Value} {xs : List Value} (hg : w.grownBy w' v.ownBlock) (hown : w.ownsRow base e size v n xs)
    {b : Nat} {c : Array Value} {t : TypeId} {fr : Nat × Nat} (hb : w.heap[b]? = some (.cells c t fr)) (ht : t ≠ e) : w'.heap[b]? = some (.cells c t fr) := by
  have hl : b < w.heap.size := (Array.getElem?_eq_some_iff.1 hb).1
  rw [hg.block b hl ?_]
  · exact hb
  · intro h
    rcases hown.2 with ⟨rfl, _⟩ | ⟨g, cap, cur, rfl, _, hh, _⟩
    · simp [Value.ownBlock] at h
    · simp only [Value.ownBlock, Option.some.injEq] at h
      subst h
      rw [hh] at hb
      simp only [Option.some.injEq, Obj.cells.injEq] at hb
      exact ht hb.2.1.symm
/-- The written row lies from base on. -/
theorem own_base {w : World} {base e size n : Nat} {v : Value} {xs : List Value} (hown : w.ownsRow base e size v n xs) : ∀ k, v.ownBlock = some k → base ≤ k := by
  intro k h
  rcases hown.2 with ⟨rfl, _⟩ | ⟨g, cap, cur, rfl, hg, _⟩
  · simp [Value.ownBlock] at h
  · simp only [Value.ownBlock, Option.some.injEq] at h
    omega
/-- The cells of a new block. -/
theorem new_cells (w : World) (xs : List Value) (t : TypeId) (j : Nat) (u : Value) (h : xs[j]? = some u) : (w.alloc (.cells xs.toArray t)).cell? ((⟨w.heap.size, 0, none⟩ : Addr).add j) = some u := by
  have ha : (⟨w.heap.size, 0, none⟩ : Addr).add j = ⟨w.heap.size, j, none⟩ := by unfold Addr.add; split <;> simp_all
  rw [ha, World.cell?_alloc_at _ _ _ _ rfl]
  simpa using h
/-- One cell loaded that every world of the class has. -/
theorem quiet_load_cell {P : Program} {C : World → Prop} {o : Oper} {a : Act} {K : Act → Prop} (ty : TypeId) (x : Operand) (ho : o.op = .load ty x)
    (p : Addr) (hx : a.eval x = .pointer (some p)) (v : Value) (d : TypeDesc) (hu : P.underlying ty = some d) (hd : (match d with | .struct _ | .array _ _ => true | _ => false) = false)
    (hg : ∀ W, C W → W.cell? p = some v) (h : K (a.put o.dst v)) : o.quiet P a C K := by
  refine ⟨v, fun W hW => ?_, h⟩
  unfold Oper.quietAt execOp
  have hagg : (isAgg ty).run P W = .ok false W := by
    unfold isAgg
    rw [Sem.run_bind, run_underlying hu W]
    cases d <;> simp_all
  simp only [ho, hx, Instr.loadAt, Instr.sureAddr, Sem.run_bind, Sem.run_pure, Result.andThen_ok, loadVar, hagg]
  simp [go_sem, hg W hW, Oper.quietUpon]
/-- What the call owns stays owned where nothing older changed. -/
theorem own_below {w w1 : World} {base e size n : Nat} {v : Value} {xs : List Value} (h : w.ownsRow base e size v n xs) (hb : Below w.heap.size w w1) : w1.ownsRow base e size v n xs := by
  refine ⟨h.1, ?_⟩
  rcases h.2 with h2 | ⟨g, cap, cur, hv, hg, hh, r⟩
  · exact .inl h2
  · exact .inr ⟨g, cap, cur, hv, hg, by rw [hb.block g (Array.getElem?_eq_some_iff.1 hh).1]; exact hh, r⟩
end Go.Proofs.Yticilbcdpiceaaa
