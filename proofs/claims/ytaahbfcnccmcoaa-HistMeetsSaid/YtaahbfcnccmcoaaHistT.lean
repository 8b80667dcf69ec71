/- append of a make to nil; the walks of slices.Grow and slices.Concat at entries. Conditions: as each theorem says. -/
import Derived.Test.YtaahbfcnccmcoaaHistV
import Derived.IntWalk
namespace Go.Proofs.Ytaahbfcnccmcoaa
open Go.RowKit

section
variable {P : Program} (w : World)
set_option maxRecDepth 100000 in
theorem run_append_make (t u ty e : TypeId) (i : TypeInfo) (z : Value) (ht : P.underlying t = some (.slice e)) (hu : P.underlying u = some (.int .i64)) (hi : P.info? e = some i) (hz : i.zero = some z) (hzs : 0 < i.size)
    (n : Nat) (h0 : 0 < n) (h63 : n ≤ 1000000) (h48 : n * i.bytes ≤ 140737488355328) :
    (Builtin.append_ #[t, u] ty #[.slice none 0 0, .int .i64 (n : Int)]).run P w =
      .ok (.slice (some ⟨w.heap.size, 0, none⟩) n (grownCap w n 0 e)) (w.drew.alloc (.cells (Builtin.zeroCells z.cells n ++ Builtin.zeroCells z.cells (grownCap w n 0 e - n)) e)) := by
  have hn : n ≠ 0 := by omega
  have hw : IntKind.i64.wrap (n : Int) = (n : Int) := IntWalk.i64_in _ (by omega)
  have ha : ∀ W : World, (asInt (Value.int .i64 (n : Int))).run P W = .ok (n : Int) W := fun W => rfl
  have hneg : ¬ ((n : Int) < 0) := by omega
  have h48i : ¬ (281474976710656 < (n : Int) * (i.bytes : Int)) := by
    have : ((n * i.bytes : Nat) : Int) ≤ 140737488355328 := Int.ofNat_le.2 h48
    rw [Int.natCast_mul] at this
    omega
  have h63' : ¬ (9223372036854775807 < (n : Int)) := by omega
  have h48' : ¬ (281474976710656 < Builtin.nextslicecap n 0 * i.bytes) := by rw [nextslicecap_zero h0]; omega
  have hsz : ¬ (n * i.size = 0) := by
    intro h
    rcases Nat.mul_eq_zero.1 h with h | h <;> omega
  simp [Builtin.append_, run_underlying ht, run_underlying hu, sizeOf, typeInfo, zeroValue, hi, hz, ha, hw, hneg, h48i, hn, h63', h48', Question.forced, run_firstCells_none, newRow, grownCap, hsz]
theorem run_append_void (t ty e : TypeId) (i : TypeInfo) (ht : P.underlying t = some (.slice e)) (hi : P.info? e = some i) {base size n : Nat} {v : Value} {xs : List Value} (h : w.ownsRow base e size v n xs) (c : Nat) :
    (Builtin.append_ #[t, t] ty #[v, .slice none 0 c]).run P w = .ok v w := by
  rcases h.2 with ⟨rfl, _⟩ | ⟨g, cap, cur, rfl, _, _, hc, _⟩
  · simp [Builtin.append_, run_underlying ht, sizeOf, typeInfo, hi, Builtin.lenOf, Builtin.firstCells]
  · simp [Builtin.append_, run_underlying ht, sizeOf, typeInfo, hi, Builtin.lenOf, hc, Builtin.firstCells, storeCells]
theorem wpList_append_make {ops : Array Oper} {rest : List Oper} {o : Oper} {a : Act} {Q : Exit → Act → World → Prop} (hgd : o.guard = none) (s x : Operand) (t u e : TypeId)
    (ho : o.op = .call { callee := .builtin .append, args := #[s, x], argTypes := #[t, u] }) (ht : P.underlying t = some (.slice e)) (hu : P.underlying u = some (.int .i64)) (z : Value) (size bytes : Nat) (hinfo : (P.info? e).map (fun i => (i.zero, i.size, i.bytes)) = some (some z, size, bytes)) (hzk : z.cells.size = size)
    (hs0 : 0 < size) (n : Nat) (hs : a.eval s = .slice none 0 0) (hx : a.eval x = .int .i64 (n : Int)) (h0 : 0 < n) (h63 : n ≤ 1000000) (h48 : n * bytes ≤ 140737488355328)
    (h : ∀ g cap w', w'.ownsRow w.heap.size e size (.slice (some ⟨g, 0, none⟩) 0 cap) 0 [] → n ≤ cap → Below w.heap.size w w' → wpList P ops Q rest (a.put o.dst (.slice (some ⟨g, 0, none⟩) n cap)) w') : wpList P ops Q (o :: rest) a w := by
  obtain ⟨i, hi, hz, hsz, hby⟩ := info_parts hinfo
  have hr := run_append_make (P := P) w t u o.type e i z ht hu hi hz (by omega) n h0 h63 (by rw [hby]; exact h48)
  have hge := grownCap_ge w n 0 e
  have hcm : grownCap w n 0 e ≤ maxLen := grownCap_le_maxLen w n 0 e (by unfold maxLen; omega)
  have hown : (w.drew.alloc (.cells (Builtin.zeroCells z.cells n ++ Builtin.zeroCells z.cells (grownCap w n 0 e - n)) e)).ownsRow w.heap.size e size (.slice (some ⟨w.heap.size, 0, none⟩) 0 (grownCap w n 0 e)) 0 [] := by
    refine ⟨by simp, .inr ⟨w.heap.size, _, _, rfl, Nat.le_refl _, heap_alloc_new w.drew _, Nat.zero_le _, hcm, ?_, by simp⟩⟩
    simp only [Array.size_append, size_zeroCells, hzk, ← Nat.add_mul]
    congr 1
    omega
  have hB : Below w.heap.size w (w.drew.alloc (.cells (Builtin.zeroCells z.cells n ++ Builtin.zeroCells z.cells (grownCap w n 0 e - n)) e)) := ((Below.refl _ w).drew).alloc (Nat.le_refl _) _
  have hk := h _ _ _ hown hge hB
  refine wpList_plain hgd fun K hK => ?_
  unfold Oper.wp execOp
  simp only [ho, resolve, invoke, builtin, Sem.run_bind, Sem.run_pure, Result.andThen_ok, List.map_toArray, List.map_cons, List.map_nil, hs, hx, hr]
  exact hK _ _ hk
theorem wpList_append_void {ops : Array Oper} {rest : List Oper} {o : Oper} {a : Act} {Q : Exit → Act → World → Prop} (hgd : o.guard = none) (s x : Operand) (t e : TypeId)
    (ho : o.op = .call { callee := .builtin .append, args := #[s, x], argTypes := #[t, t] }) (ht : P.underlying t = some (.slice e)) {i : TypeInfo} (hi : P.info? e = some i) {base size n : Nat} {v : Value} {xs : List Value} (hs : a.eval s = v) (hown : w.ownsRow base e size v n xs) (c : Nat) (hx : a.eval x = .slice none 0 c)
    (h : wpList P ops Q rest (a.put o.dst v) w) : wpList P ops Q (o :: rest) a w := by
  have hr := run_append_void (P := P) w t o.type e i ht hi hown c
  refine wpList_plain hgd fun K hK => ?_
  unfold Oper.wp execOp
  simp only [ho, resolve, invoke, builtin, Sem.run_bind, Sem.run_pure, Result.andThen_ok, List.map_toArray, List.map_cons, List.map_nil, hs, hx, hr]
  exact hK _ _ h
end
abbrev EntT : TypeId := 28
/-- append of entries out of any slice, at the operation. -/
theorem wpList_append_ents {ops : Array Oper} {rest : List Oper} {o : Oper} {a : Act} {w : World} {Q : Exit → Act → World → Prop} (hgd : o.guard = none) (s x : Operand)
    (ho : o.op = .call { callee := .builtin .append, args := #[s, x], argTypes := #[22, 22] }) (base : Nat) (v : Value) (A : List Ent) (hs : a.eval s = v) (hown : w.ownsRow base EntT 3 v A.length (entRow A)) (M : List Ent) (ad : Option Addr) (c : Nat) (hx : a.eval x = .slice ad M.length c)
    (hM : EntsAt w (.slice ad M.length c) M) (hl : A.length + M.length ≤ 1000000) (hbase : base ≤ w.heap.size)
    (h : ∀ v' w', w'.ownsRow base EntT 3 v' (A ++ M).length (entRow (A ++ M)) → w.grownBy w' v.ownBlock → wpList Try.prog ops Q rest (a.put o.dst v') w') : wpList Try.prog ops Q (o :: rest) a w := by
  obtain ⟨i5, hi, hz0, hz1, hz2⟩ := info_parts infoEnt
  have hgo : ∀ ad2, a.eval x = .slice (some ad2) M.length c → (∀ j u, (entRow M)[j]? = some u → w.cell? (ad2.add j) = some u) → wpList Try.prog ops Q (o :: rest) a w := fun ad2 hx2 hc2 =>
    wpList_append_own _ hgd s x 22 ho base EntT i5 (.agg #[.int .i64 0, .int .i64 0, .string ⟨#[]⟩]) 3 32 Try.underlying22 hi hz0 hz1 hz2 rfl (by decide) v A.length (entRow A) hs hown ad2 M.length c (entRow M) hx2 (by rw [entRow_length]) hc2 (entRow_one M) (by unfold maxLen; omega) (by omega) hbase (fun v' w' h1 h2 _ => h v' w' (by rw [List.length_append, entRow_append]; exact h1) h2)
  by_cases h0 : M.length = 0
  · have hM0 : M = [] := List.length_eq_zero_iff.1 h0
    subst hM0
    cases ad with
    | none =>
      refine wpList_append_void w hgd s x _ EntT ho Try.underlying22 hi hs hown c hx ?_
      exact h v w (by simpa using hown) ⟨rfl, rfl, rfl, Nat.le_refl _, fun _ _ _ => rfl⟩
    | some ad => exact hgo ad hx (fun j u hu => by simp [entRow] at hu)
  · obtain ⟨b, off, e, _⟩ := ents_get hM 0 (by omega)
    subst e
    exact hgo _ hx (fun j u hu => ents_cells hM j u hu)
set_option maxRecDepth 100000 in
set_option maxHeartbeats 400000 in
theorem grow_any (n : Nat) (hn : n ≤ 1000000) (w : World) : Calls Try.prog 56 #[.slice none 0 0, .int .i64 (n : Int)] w fun e w' => ∃ v, e = .returned v ∧ w'.ownsRow w.heap.size EntT 3 v 0 (entRow []) ∧ Below w.heap.size w w' := by
  by_cases h0 : n = 0
  · subst h0
    go_enter Try.func56, Try.ntmps56
    go_wp2
    go_ret
    exact ⟨_, rfl, World.ownsRow_nil _ _ _ _, Below.refl _ _⟩
  · have d1 : decide (0 < n) = true := decide_eq_true (by omega)
    go_enter Try.func56, Try.ntmps56
    go_wp2_with (at_builtin; refine wpList_append_make _ rfl _ _ _ _ EntT rfl Try.underlying22 Try.underlying3 _ 3 32 infoEnt rfl (by decide) n rfl rfl (by omega) hn (by omega) ?_; intro g cap w1 hown hcap hB)
    go_ret
    exact ⟨_, rfl, hown, hB⟩
end Go.Proofs.Ytaahbfcnccmcoaa
