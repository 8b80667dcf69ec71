/- copy into a row that is known, its elements of any shape; rows cut short, an element stored. General: no function of the program in sight. Conditions: as each theorem says. -/
import Derived.Test.YteoibolompiohaaGrow
import Derived.Laws.CopyRow
import Derived.Laws.IdiomCopy
import Derived.Deep.RegionLaw
import Derived.Laws.OwnMore
import Derived.Laws.MakeOwn
import Derived.Deep.AppendLies
import Derived.Laws.AppendOwnNone
namespace Go.Proofs.Yteoibolompiohaa
open Go.RowKit

section
variable {α : Type} {T : TypeId} {k : Nat} {enc : α → List Value} {base : Nat} {v : Value} {L M : List α} {w w' : World}
theorem rowOf_take (hlen : ∀ x, (enc x).length = k) : ∀ (L : List α) (n : Nat), (rowOf enc L).take (n * k) = rowOf enc (L.take n) := by
  intro L
  induction L with
  | nil => intro n; simp [rowOf]
  | cons a L ih =>
    intro n
    cases n with
    | zero => simp [rowOf]
    | succ n =>
      have ih := ih n
      unfold rowOf at *
      rw [List.flatMap_cons, List.take_succ_cons, List.flatMap_cons, List.take_append, hlen, Nat.succ_mul, List.take_of_length_le (by rw [hlen]; omega), show n * k + k - k = n * k by omega, ih]
theorem rowOf_drop (hlen : ∀ x, (enc x).length = k) : ∀ (L : List α) (n : Nat), (rowOf enc L).drop (n * k) = rowOf enc (L.drop n) := by
  intro L
  induction L with
  | nil => intro n; simp [rowOf]
  | cons a L ih =>
    intro n
    cases n with
    | zero => simp [rowOf]
    | succ n =>
      have ih := ih n
      unfold rowOf at *
      rw [List.flatMap_cons, List.drop_succ_cons, List.drop_append, hlen, Nat.succ_mul, List.drop_of_length_le (by rw [hlen]; omega), show n * k + k - k = n * k by omega, ih, List.nil_append]
theorem rowOf_one_all (hone : ∀ c, ∀ u ∈ enc c, u.oneCell' = true) (L : List α) : ∀ u ∈ rowOf enc L, u.oneCell' = true := by
  intro u hu
  obtain ⟨c, _, hu⟩ := List.mem_flatMap.1 hu
  exact hone c u hu
theorem add_none (b o j : Nat) : (⟨b, o, none⟩ : Addr).add j = ⟨b, o + j, none⟩ := by unfold Addr.add; split <;> simp_all
/-- The cells of rows. -/
theorem RowsAt.cells (hlen : ∀ x, (enc x).length = k) (hk0 : 0 < k) {b off n c : Nat} (h : RowsAt k enc w (.slice (some ⟨b, off, none⟩) n c) L) : ∀ (j : Nat) (u : Value), (rowOf enc L)[j]? = some u → w.cell? ⟨b, off + j, none⟩ = some u := by
  intro j u hu
  obtain ⟨a', cap', hv', hr⟩ := h
  simp only [Value.slice.injEq] at hv'
  obtain ⟨rfl, _, rfl⟩ := hv'
  have hj : j < L.length * k := by rw [← rowOf_length hlen L]; exact (List.getElem?_eq_some_iff.1 hu).1
  have hdiv : j / k < L.length := by rw [Nat.div_lt_iff_lt_mul hk0]; exact hj
  have hmod : j % k < k := Nat.mod_lt _ hk0
  have hsum : j / k * k + j % k = j := by rw [Nat.mul_comm]; exact Nat.div_add_mod j k
  obtain ⟨b', off', hbo', hrr⟩ := hr (j / k) hdiv
  simp only [Option.some.injEq, Addr.mk.injEq, and_true] at hbo'
  obtain ⟨rfl, rfl⟩ := hbo'
  rw [← hsum, rowOf_get hlen L _ hdiv _ hmod] at hu
  have := hrr (j % k) u hu
  rw [← hsum, ← Nat.add_assoc]; exact this
theorem run_copy_cells {P : Program} (w : World) (dT sT ty : TypeId) (g o dLen dCap : Nat) (a : Addr) (sLen sCap : Nat) (cur : Array Value) (t : TypeId) (cs : List Value) (hu : P.underlying dT = some (.slice T)) (hs : (P.info? T).map (·.size) = some k)
    (hg : w.heap[g]? = some (.cells cur t (0, 0))) (hn : cs.length = Nat.min sLen dLen * k) (hsrc : ∀ j v, cs[j]? = some v → w.cell? (a.add j) = some v) (hfit : o + cs.length ≤ cur.size) (h1 : ∀ v ∈ cs, v.oneCell' = true) :
    (Builtin.copy_ #[dT, sT] ty #[.slice (some ⟨g, o, none⟩) dLen dCap, .slice (some a) sLen sCap]).run P w = .ok (goInt (Nat.min sLen dLen)) (w.setRow g (cur.toList.take o ++ cs ++ cur.toList.drop (o + cs.length)).toArray) := by
  have hl := run_loadCells_list (P := P) w a cs hsrc
  have hst := run_storeCells_at P g o t cs 0 cur w hg (by simpa using hfit) h1
  cases hq : P.info? T with
  | none => simp [hq] at hs
  | some i =>
    have hi : i.size = k := by simpa [hq] using hs
    rw [hn] at hl
    simp [Builtin.copy_, run_underlying hu, Builtin.lenOf, Builtin.firstCells, sizeOf, typeInfo, hq, hi, hl, hst]
theorem run_copy_zero {P : Program} (w : World) (dT sT ty : TypeId) (dp sp : Option Addr) (dLen dCap sLen sCap : Nat) (hu : P.underlying dT = some (.slice T)) (hs : (P.info? T).map (·.size) = some k) (hn : Nat.min sLen dLen = 0) :
    (Builtin.copy_ #[dT, sT] ty #[.slice dp dLen dCap, .slice sp sLen sCap]).run P w = .ok (goInt 0) w := by
  cases hq : P.info? T with
  | none => simp [hq] at hs
  | some i =>
    cases dp <;> cases sp <;> simp [Builtin.copy_, run_underlying hu, Builtin.lenOf, Builtin.firstCells, sizeOf, typeInfo, hq, hn, loadCells, loadCellsFrom, storeCells]
/-- The row behind a copy of M's elements to place d. -/
def laidL (L : List α) (d : Nat) (M : List α) : List α := L.take d ++ M ++ L.drop (d + M.length)
theorem laidL_length (d : Nat) (h : d + M.length ≤ L.length) : (laidL L d M).length = L.length := by simp [laidL]; omega
theorem copy_run {P : Program} (dT sT ty : TypeId) (hu : P.underlying dT = some (.slice T)) (hsz : (P.info? T).map (·.size) = some k) (hk0 : 0 < k) (hlen : ∀ x, (enc x).length = k) (hone : ∀ c, ∀ u ∈ enc c, u.oneCell' = true)
    {g n c : Nat} (h : Grow T k enc base (.slice (some ⟨g, 0, none⟩) n c) L w) (d dLen dCap : Nat) (dp : Option Addr) (hd : 0 < dLen → dp = some ⟨g, d * k, none⟩) (hdl : d + dLen ≤ L.length) (sp : Option Addr) (sCap : Nat) (sLen : Nat) (hM : RowsAt k enc w (.slice sp sLen sCap) M) :
    ∃ w', (Builtin.copy_ #[dT, sT] ty #[.slice dp dLen dCap, .slice sp sLen sCap]).run P w = .ok (goInt (Nat.min sLen dLen)) w' ∧ Grow T k enc base (.slice (some ⟨g, 0, none⟩) n c) (laidL L d (M.take (Nat.min sLen dLen))) w' ∧ w.grownBy w' (some g) := by
  have hsl : sLen = M.length := by
    obtain ⟨a', cap', hv', _⟩ := hM
    simp only [Value.slice.injEq] at hv'
    exact hv'.2.1
  obtain ⟨m, hm⟩ : ∃ m, m = Nat.min sLen dLen := ⟨_, rfl⟩
  have hmd : m ≤ dLen := by rw [hm]; exact Nat.min_le_right _ _
  have hms : m ≤ M.length := by rw [hm, ← hsl]; exact Nat.min_le_left _ _
  rw [← hm]
  by_cases h0 : m = 0
  · refine ⟨w, ?_, ?_, ⟨rfl, rfl, rfl, Nat.le_refl _, fun _ _ _ => rfl⟩⟩
    · have := run_copy_zero (P := P) w dT sT ty dp sp dLen dCap sLen sCap hu hsz (by rw [← hm]; exact h0)
      rw [h0]; exact this
    · rw [h0, List.take_zero]
      unfold laidL
      simp only [List.append_nil, List.length_nil, Nat.add_zero, List.take_append_drop]
      exact h
  · obtain rfl := hd (by omega)
    have hM2 := hM
    obtain ⟨a', cap', hv', hr⟩ := hM
    simp only [Value.slice.injEq] at hv'
    obtain ⟨rfl, _, rfl⟩ := hv'
    obtain ⟨b, off, rfl, _⟩ := hr 0 (by omega)
    rcases h.2 with ⟨h', _⟩ | ⟨g', cap', cur, h', hb, hg, hnc, hcm, hcs, htake⟩
    · simp at h'
    simp only [Value.slice.injEq, Option.some.injEq, Addr.mk.injEq, and_true, true_and] at h'
    obtain ⟨rfl, hnl, rfl⟩ := h'
    have hcsl : (rowOf enc (M.take m)).length = m * k := by rw [rowOf_length hlen, List.length_take, Nat.min_eq_left hms]
    have hfit : d * k + m * k ≤ L.length * k := by rw [← Nat.add_mul]; exact Nat.mul_le_mul_right _ (by omega)
    have hfit2 : L.length * k ≤ cur.size := by rw [hcs]; exact Nat.mul_le_mul_right _ hnc
    have hrun := run_copy_cells (P := P) w dT sT ty g (d * k) dLen dCap ⟨b, off, none⟩ sLen sCap cur T (rowOf enc (M.take m)) hu hsz hg (by rw [hcsl, hm]) (fun j u hu => by
      rw [add_none]
      refine RowsAt.cells hlen hk0 hM2 j u ?_
      rw [← rowOf_take hlen] at hu
      rw [List.getElem?_take] at hu
      split at hu
      · exact hu
      · cases hu) (by rw [hcsl]; omega) (rowOf_one_all hone _)
    rw [← hm] at hrun
    refine ⟨_, hrun, ?_, ⟨rfl, rfl, rfl, by simp [World.setRow], fun j _ hne => setRow_other w g j _ (fun e => hne (by rw [e]))⟩⟩
    have hll : (laidL L d (M.take m)).length = L.length := laidL_length _ (by rw [List.length_take, Nat.min_eq_left hms]; omega)
    refine ⟨by rw [rowOf_length hlen], .inr ⟨g, _, _, by rw [hll, hnl], hb, setRow_heap w g cur _ T _ hg, by rw [hll]; simpa using hnc, by simpa using hcm, ?_, ?_⟩⟩
    · simp only [List.size_toArray, List.length_append, List.length_take, List.length_drop, Array.length_toList, hcsl]
      omega
    · rw [hll]
      unfold laidL
      have e1 : rowOf enc (L.take d) = cur.toList.take (d * k) := by
        rw [← rowOf_take hlen, ← htake, List.take_take, Nat.min_eq_left (by omega)]
      have e2 : rowOf enc (L.drop (d + m)) = (cur.toList.drop (d * k + m * k)).take (L.length * k - (d * k + m * k)) := by
        rw [← rowOf_drop hlen, ← htake, Nat.add_mul, List.drop_take]
      rw [rowOf_append, rowOf_append, e1, List.length_take, Nat.min_eq_left hms, e2, hcsl]
      rw [List.take_append, List.take_of_length_le (by simp [hcsl]; omega)]
      congr 1
      congr 1
      simp [hcsl]
      omega
theorem wpList_copy_rows {P : Program} {ops : Array Oper} {rest : List Oper} {o : Oper} {a : Act} {Q : Exit → Act → World → Prop} (hgd : o.guard = none) (x y : Operand) (dT sT : TypeId) (ho : o.op = .call { callee := .builtin .copy, args := #[x, y], argTypes := #[dT, sT] })
    (hu : P.underlying dT = some (.slice T)) (hsz : (P.info? T).map (·.size) = some k) (hk0 : 0 < k) (hlen : ∀ x, (enc x).length = k) (hone : ∀ c, ∀ u ∈ enc c, u.oneCell' = true)
    {g n c : Nat} (h : Grow T k enc base (.slice (some ⟨g, 0, none⟩) n c) L w) (d dLen dCap : Nat) (dp : Option Addr) (hd : 0 < dLen → dp = some ⟨g, d * k, none⟩) (hdl : d + dLen ≤ L.length) (sp : Option Addr) (sCap : Nat) (sLen : Nat) (hM : RowsAt k enc w (.slice sp sLen sCap) M)
    (hx : a.eval x = .slice dp dLen dCap) (hy : a.eval y = .slice sp sLen sCap)
    (hK : ∀ w', Grow T k enc base (.slice (some ⟨g, 0, none⟩) n c) (laidL L d (M.take (Nat.min sLen dLen))) w' → w.grownBy w' (some g) → wpList P ops Q rest (a.put o.dst (goInt (Nat.min sLen dLen))) w') :
    wpList P ops Q (o :: rest) a w := by
  obtain ⟨w', hrun, h1, h2⟩ := copy_run (P := P) dT sT o.type hu hsz hk0 hlen hone h d dLen dCap dp hd hdl sp sCap sLen hM
  refine wpList_plain hgd fun K hKK => ?_
  unfold Oper.wp
  simp [execOp, ho, resolve, invoke, builtin, hx, hy, hrun, Result.andThen]
  exact hKK _ _ (hK w' h1 h2)
theorem step_copy_rows {P : Program} {ops : Array Oper} {o : Oper} {a : Act} {K : Act → World → Prop} {Q : Exit → Act → World → Prop} {E : Prop} (hgd : o.guard = none) (x y : Operand) (dT sT : TypeId) (ho : o.op = .call { callee := .builtin .copy, args := #[x, y], argTypes := #[dT, sT] })
    (hu : P.underlying dT = some (.slice T)) (hsz : (P.info? T).map (·.size) = some k) (hk0 : 0 < k) (hlen : ∀ x, (enc x).length = k) (hone : ∀ c, ∀ u ∈ enc c, u.oneCell' = true)
    {g n c : Nat} (h : Grow T k enc base (.slice (some ⟨g, 0, none⟩) n c) L w) (d dLen dCap : Nat) (dp : Option Addr) (hd : 0 < dLen → dp = some ⟨g, d * k, none⟩) (hdl : d + dLen ≤ L.length) (sp : Option Addr) (sCap : Nat) (sLen : Nat) (hM : RowsAt k enc w (.slice sp sLen sCap) M)
    (hx : a.eval x = .slice dp dLen dCap) (hy : a.eval y = .slice sp sLen sCap)
    (hK : ∀ w', Grow T k enc base (.slice (some ⟨g, 0, none⟩) n c) (laidL L d (M.take (Nat.min sLen dLen))) w' → w.grownBy w' (some g) → K (a.put o.dst (goInt (Nat.min sLen dLen))) w') :
    if Region.wanted o (yielded ops a.tmps) = true then Oper.wp P o a w K Q else E := by
  obtain ⟨w', hrun, h1, h2⟩ := copy_run (P := P) dT sT o.type hu hsz hk0 hlen hone h d dLen dCap dp hd hdl sp sCap sLen hM
  rw [if_pos (by simp [Region.wanted, hgd])]
  unfold Oper.wp
  simp [execOp, ho, resolve, invoke, builtin, hx, hy, hrun, Result.andThen]
  exact hK w' h1 h2
/-- A row cut short. -/
theorem Grow.short {g n c : Nat} (h : Grow T k enc base (.slice (some ⟨g, 0, none⟩) n c) L w) (hlen : ∀ x, (enc x).length = k) (m : Nat) (hm : m ≤ L.length) : Grow T k enc base (.slice (some ⟨g, 0, none⟩) m c) (L.take m) w := by
  have hml : (L.take m).length = m := by simp; omega
  rcases h.2 with ⟨h', _⟩ | ⟨g', cap', cur, h', hb, hg, hnc, hcm, hcs, htake⟩
  · simp at h'
  simp only [Value.slice.injEq, Option.some.injEq, Addr.mk.injEq, and_true, true_and] at h'
  obtain ⟨rfl, hnl, rfl⟩ := h'
  refine ⟨by rw [rowOf_length hlen], .inr ⟨g, c, cur, by rw [hml], hb, hg, by omega, hcm, hcs, ?_⟩⟩
  rw [hml, ← rowOf_take hlen, ← htake, List.take_take, Nat.min_eq_left (Nat.mul_le_mul_right _ hm)]
/-- An element stored, whole. -/
theorem Grow.stores {g n c : Nat} (h : Grow T k enc base (.slice (some ⟨g, 0, none⟩) n c) L w) (hlen : ∀ x, (enc x).length = k) (i : Nat) (hi : i < L.length) (x : α) (vs : List Value) (hvs : vs = enc x) :
    Grow T k enc base (.slice (some ⟨g, 0, none⟩) n c) (L.set i x) (w.setCells g (i * k) vs) ∧ w.grownBy (w.setCells g (i * k) vs) (some g) := by
  subst hvs
  rcases h.2 with ⟨h', _⟩ | ⟨g', cap', cur, h', hb, hg, hnc, hcm, hcs, htake⟩
  · simp at h'
  simp only [Value.slice.injEq, Option.some.injEq, Addr.mk.injEq, and_true, true_and] at h'
  obtain ⟨rfl, hnl, rfl⟩ := h'
  have hbl : BlkAt g T cur.toList w := by unfold BlkAt; simpa using hg
  have h2 := hbl.sets (enc x) (i * k)
  have hl2 := setMany_length (enc x) cur.toList (i * k)
  have hset : ∀ (L : List α) (i : Nat), i < L.length → setMany (rowOf enc L) (i * k) (enc x) = rowOf enc (L.set i x) := by
    intro L
    induction L with
    | nil => intro i hi; simp at hi
    | cons a L ih =>
      intro i hi
      unfold rowOf at *
      cases i with
      | zero => rw [Nat.zero_mul, List.flatMap_cons, setMany_left _ _ _ _ (by rw [hlen, hlen]; omega), setMany_full _ _ (by rw [hlen, hlen]), List.set_cons_zero, List.flatMap_cons]
      | succ i =>
        rw [List.flatMap_cons, show (i + 1) * k = (enc a).length + i * k by rw [hlen, Nat.succ_mul]; omega, setMany_right, ih i (by simpa using hi), List.set_cons_succ, List.flatMap_cons]
  have hik : i * k + k ≤ L.length * k := by rw [← Nat.succ_mul]; exact Nat.mul_le_mul_right _ hi
  refine ⟨⟨by rw [rowOf_length hlen], .inr ⟨g, c, (setMany cur.toList (i * k) (enc x)).toArray, by rw [List.length_set, hnl], hb, h2, by rw [List.length_set]; exact hnc, hcm, by rw [List.size_toArray, hl2]; simpa using hcs, ?_⟩⟩, grown_sets g (enc x) w (i * k)⟩
  rw [List.length_set, ← hset L i hi, ← htake]
  have e : cur.toList = cur.toList.take (L.length * k) ++ cur.toList.drop (L.length * k) := (List.take_append_drop _ _).symm
  have hsz : (cur.toList.take (L.length * k)).length = L.length * k := by rw [htake, rowOf_length hlen]
  simp only
  conv => lhs; rw [e]
  rw [setMany_left _ _ _ _ (by rw [hlen, hsz]; exact hik), List.take_left' (by rw [setMany_length]; exact hsz)]
/-- The new slice of an append: where it lies. -/
theorem wpList_append_grow_at {P : Program} {ops : Array Oper} {rest : List Oper} {o : Oper} {a : Act} {w1 : World} {Q : Exit → Act → World → Prop} (hgd : o.guard = none) (s x : Operand) (ty : TypeId)
    (ho : o.op = .call { callee := .builtin .append, args := #[s, x], argTypes := #[ty, ty] }) (hty : P.underlying ty = some (.slice T)) (z : Value) (bytes : Nat) (hinfo : (P.info? T).map (fun i => (i.zero, i.size, i.bytes)) = some (some z, k, bytes))
    (hzk : z.cells.size = k) (hk0 : 0 < k) (hs : a.eval s = v) (h : Grow T k enc base v L w1) (hbase : base ≤ w1.heap.size) (c : α) (cs : Array Value) (hcs : cs = (enc c).toArray) (hlen : (enc c).length = k) (hone : ∀ u ∈ enc c, u.oneCell' = true)
    (hx : a.eval x = .slice (some ⟨w1.heap.size, 0, none⟩) 1 1) (hl : L.length + 1 ≤ maxLen) (hbytes : (L.length + 1) * bytes ≤ 140737488355328)
    (hK : ∀ g cap w', Grow T k enc base (.slice (some ⟨g, 0, none⟩) (L.length + 1) cap) (L ++ [c]) w' → (w1.alloc (.cells cs T)).grownBy w' v.ownBlock → (v.ownBlock = some g ∨ g = w1.heap.size + 1) → wpList P ops Q rest (a.put o.dst (.slice (some ⟨g, 0, none⟩) (L.length + 1) cap)) w') :
    wpList P ops Q (o :: rest) a (w1.alloc (.cells cs T)) := by
  subst hcs
  obtain ⟨i0, hi, hz0, hz1, hz2⟩ := info_parts hinfo
  refine wpList_append_lies (w1.alloc _) hgd s x ty ho base T i0 z k bytes hty hi hz0 hz1 hz2 hzk hk0 v _ _ hs (World.ownsRow.alloc h _) ⟨w1.heap.size, 0, none⟩ 1 1 (enc c) hx (by rw [hlen, Nat.one_mul])
    (fun j u hu => new_cells w1 (enc c) T j u hu) hone (by omega) hl hbytes (by simp; omega) (w1.heap.size + 1) (by simp) ?_
  intro g cap w' hown hg hat hlt
  refine hK g cap w' ?_ hg hat
  unfold Grow
  rw [rowOf_append, rowOf_one, List.length_append]
  exact hown
/-- A row made: n zeros. -/
theorem made_row (hlen : ∀ x, (enc x).length = k) (x : α) (n : Nat) : (madeCells (enc x).toArray (n * k)).toList = rowOf enc (List.replicate n x) := by
  apply List.ext_getElem?
  intro j
  have hsz : (enc x).toArray.size = k := by simp [hlen]
  by_cases hj : j < n * k
  · have hk0 : 0 < k := by
      rcases Nat.eq_zero_or_pos k with h | h
      · subst h; simp at hj
      · exact h
    have hdiv : j / k < (List.replicate n x).length := by rw [List.length_replicate, Nat.div_lt_iff_lt_mul hk0]; exact hj
    have hmod : j % k < k := Nat.mod_lt _ hk0
    have hsum : j / k * k + j % k = j := by rw [Nat.mul_comm]; exact Nat.div_add_mod j k
    have h2 := rowOf_get hlen (List.replicate n x) (j / k) hdiv (j % k) hmod
    rw [hsum] at h2
    rw [h2]
    simp only [List.getElem_replicate]
    unfold madeCells
    simp only [Array.toList_map, Array.toList_range, List.getElem?_map, List.getElem?_range hj, Option.map_some, hsz]
    rw [List.getElem?_eq_getElem (by rw [hlen]; exact hmod), getElem!_pos _ _ (by rw [hsz]; exact hmod)]
    simp
  · rw [List.getElem?_eq_none (by simp [size_madeCells]; omega), List.getElem?_eq_none (by rw [rowOf_length hlen, List.length_replicate]; omega)]
theorem make_run {P : Program} (t : TypeId) (ht : P.underlying t = some (.slice T)) (z : Value) (bytes : Nat) (hinfo : (P.info? T).map (fun i => (i.zero, i.size, i.bytes)) = some (some z, k, bytes)) (x : α) (hz : z.cells = (enc x).toArray) (hlen : ∀ x, (enc x).length = k)
    (n : Nat) (hn : n ≤ 1000000) (hb : bytes ≤ 1000) (base : Nat) (hbase : base ≤ w.heap.size) :
    (Instr.makeSlice t (.int .i64 (n : Int)) (.int .i64 (n : Int))).run P w = .ok (.slice (some ⟨w.heap.size, 0, none⟩) n n) (w.alloc (.cells (rowOf enc (List.replicate n x)).toArray T)) ∧
      Grow T k enc base (.slice (some ⟨w.heap.size, 0, none⟩) n n) (List.replicate n x) (w.alloc (.cells (rowOf enc (List.replicate n x)).toArray T)) := by
  obtain ⟨i0, hi, hz0, hz1, hz2⟩ := info_parts hinfo
  have hbn : (bytes : Int) * (n : Int) ≤ 1000 * 1000000 := by
    have h1 : bytes * n ≤ 1000 * 1000000 := Nat.mul_le_mul hb hn
    have h2 := Int.ofNat_le.2 h1
    rw [Int.natCast_mul] at h2
    exact h2
  have hr := run_make (P := P) w t T i0 z ht hi hz0 .i64 .i64 (n : Int) (n : Int) (by omega) (by omega) (by rw [hz2]; omega) (by omega)
  simp only [Int.toNat_natCast] at hr
  have hm : madeCells z.cells (n * i0.size) = (rowOf enc (List.replicate n x)).toArray := by
    rw [← made_row hlen, hz, hz1]
  rw [hm] at hr
  refine ⟨hr, ⟨by rw [rowOf_length hlen], .inr ⟨w.heap.size, n, _, by rw [List.length_replicate], hbase, heap_alloc_new w _, by simp, by unfold maxLen; omega, by rw [List.size_toArray, rowOf_length hlen, List.length_replicate], ?_⟩⟩⟩
  rw [List.length_replicate]
  exact List.take_of_length_le (by simp [rowOf_length hlen])
/-- An append of one, ahead of the walk. -/
theorem append_run {P : Program} (ty : TypeId) (hty : P.underlying ty = some (.slice T)) (z : Value) (bytes : Nat) (hinfo : (P.info? T).map (fun i => (i.zero, i.size, i.bytes)) = some (some z, k, bytes)) (hzk : z.cells.size = k) (hk0 : 0 < k)
    (h : Grow T k enc base v L w) (hbase : base ≤ w.heap.size) (c : α) (hlen : (enc c).length = k) (hone : ∀ u ∈ enc c, u.oneCell' = true) (hl : L.length + 1 ≤ maxLen) (hbytes : (L.length + 1) * bytes ≤ 140737488355328) :
    ∃ g cap w', (Builtin.append_ #[ty, ty] ty #[v, .slice (some ⟨w.heap.size, 0, none⟩) 1 1]).run P (w.alloc (.cells (enc c).toArray T)) = .ok (.slice (some ⟨g, 0, none⟩) (L.length + 1) cap) w' ∧
      Grow T k enc base (.slice (some ⟨g, 0, none⟩) (L.length + 1) cap) (L ++ [c]) w' ∧ w.grownBy w' v.ownBlock ∧ (v.ownBlock = some g ∨ g = w.heap.size + 1) ∧ g < w'.heap.size ∧ w.heap.size + 1 ≤ w'.heap.size := by
  obtain ⟨i0, hi, hz0, hz1, hz2⟩ := info_parts hinfo
  obtain ⟨g, cap, w', hr, hown, hg, hat, hlt⟩ := run_append_lies (P := P) (w.alloc (.cells (enc c).toArray T)) ty ty base T i0 z k bytes hty hi hz0 hz1 hz2 hzk hk0 v _ _ (World.ownsRow.alloc h _) ⟨w.heap.size, 0, none⟩ 1 1 (enc c) (by rw [hlen, Nat.one_mul])
    (fun j u hu => new_cells w (enc c) T j u hu) hone (by omega) hl hbytes (by simp; omega) (w.heap.size + 1) (by simp)
  refine ⟨g, cap, w', hr, ?_, (World.grownBy_alloc w _ _).trans hg, hat, hlt, by have := hg.size; simpa using this⟩
  unfold Grow
  rw [rowOf_append, rowOf_one, List.length_append]
  exact hown
/-- An append whose run is known ahead of the walk. -/
theorem wpList_append_eq {P : Program} {ops : Array Oper} {rest : List Oper} {o : Oper} {a : Act} {Q : Exit → Act → World → Prop} (hgd : o.guard = none) (x y : Operand) (t : TypeId) (ho : o.op = .call { callee := .builtin .append, args := #[x, y], argTypes := #[t, t] })
    (v u r : Value) (w' : World) (hx : a.eval x = v) (hy : a.eval y = u) (hrun : (Builtin.append_ #[t, t] o.type #[v, u]).run P w = .ok r w') (hK : wpList P ops Q rest (a.put o.dst r) w') : wpList P ops Q (o :: rest) a w := by
  refine wpList_plain hgd fun K hKK => ?_
  unfold Oper.wp
  simp [execOp, ho, resolve, invoke, builtin, hx, hy, hrun, Result.andThen]
  exact hKK _ _ hK
/-- An append of all of another row, ahead of the walk. -/
theorem append_all_run {P : Program} (ty : TypeId) (hty : P.underlying ty = some (.slice T)) (z : Value) (bytes : Nat) (hinfo : (P.info? T).map (fun i => (i.zero, i.size, i.bytes)) = some (some z, k, bytes)) (hzk : z.cells.size = k) (hk0 : 0 < k)
    (h : Grow T k enc base v L w) (hbase : base ≤ w.heap.size) (hlen : ∀ x, (enc x).length = k) (hone : ∀ c, ∀ u ∈ enc c, u.oneCell' = true) (sp : Option Addr) (n cap : Nat) (hM : RowsAt k enc w (.slice sp n cap) M) (hsp : sp = none → cap = 0) (hl : L.length + M.length ≤ maxLen) (hbytes : (L.length + M.length) * bytes ≤ 140737488355328) :
    ∃ v' w', (Builtin.append_ #[ty, ty] ty #[v, .slice sp n cap]).run P w = .ok v' w' ∧ Grow T k enc base v' (L ++ M) w' ∧ w.grownBy w' v.ownBlock ∧ (v'.ownBlock = v.ownBlock ∨ ∀ b, v'.ownBlock = some b → w.heap.size ≤ b) := by
  obtain ⟨i0, hi, hz0, hz1, hz2⟩ := info_parts hinfo
  have hn : n = M.length := by
    obtain ⟨a', cap', hv', _⟩ := hM
    simp only [Value.slice.injEq] at hv'
    exact hv'.2.1
  subst hn
  cases sp with
  | none =>
    obtain rfl := hsp rfl
    have hM0 : M = [] := by
      rcases Nat.eq_zero_or_pos M.length with h0 | h0
      · exact List.eq_nil_of_length_eq_zero h0
      · obtain ⟨a', cap', hv', hr⟩ := hM
        obtain ⟨b, off, e, _⟩ := hr 0 h0
        simp only [Value.slice.injEq] at hv'
        rw [← hv'.1] at e; cases e
    subst hM0
    have hr := run_append_owned_none (P := P) (w := w) base ty ty T i0 k hty hi v L.length (rowOf enc L) h
    exact ⟨v, w, hr, by rw [List.append_nil]; exact h, ⟨rfl, rfl, rfl, Nat.le_refl _, fun _ _ _ => rfl⟩, .inl rfl⟩
  | some ad =>
    have hcells : ∀ j u, (rowOf enc M)[j]? = some u → w.cell? (ad.add j) = some u := by
      rcases Nat.eq_zero_or_pos M.length with h0 | h0
      · intro j u hu
        have hM0 : M = [] := List.eq_nil_of_length_eq_zero h0
        subst hM0
        simp [rowOf] at hu
      · have hM2 := hM
        obtain ⟨a', cap', hv', hr⟩ := hM
        simp only [Value.slice.injEq] at hv'
        obtain ⟨rfl, _, rfl⟩ := hv'
        obtain ⟨b, off, hbo, _⟩ := hr 0 h0
        simp only [Option.some.injEq] at hbo
        subst hbo
        intro j u hu
        rw [add_none]
        exact RowsAt.cells hlen hk0 hM2 j u hu
    obtain ⟨v', w', hr, hown, hg, _, hat⟩ := run_append_own_at (P := P) w base ty ty T i0 z k bytes hty hi hz0 hz1 hz2 hzk hk0 v _ _ h ad M.length cap (rowOf enc M) (rowOf_length hlen M) hcells (rowOf_one_all hone M) hl hbytes hbase
    refine ⟨v', w', hr, ?_, hg, ?_⟩
    · unfold Grow
      rw [rowOf_append, List.length_append]
      exact hown
    · rcases hat with h1 | h1
      · exact .inl h1
      · right
        intro b hb
        rw [h1] at hb
        simp only [Option.some.injEq] at hb
        omega
theorem step_append_eq {P : Program} {ops : Array Oper} {o : Oper} {a : Act} {K : Act → World → Prop} {Q : Exit → Act → World → Prop} {E : Prop} (hgd : o.guard = none) (x y : Operand) (t : TypeId) (ho : o.op = .call { callee := .builtin .append, args := #[x, y], argTypes := #[t, t] })
    (v u r : Value) (w' : World) (hx : a.eval x = v) (hy : a.eval y = u) (hrun : (Builtin.append_ #[t, t] o.type #[v, u]).run P w = .ok r w') (hK : K (a.put o.dst r) w') : if Region.wanted o (yielded ops a.tmps) = true then Oper.wp P o a w K Q else E := by
  rw [if_pos (by simp [Region.wanted, hgd])]
  unfold Oper.wp
  simp [execOp, ho, resolve, invoke, builtin, hx, hy, hrun, Result.andThen]
  exact hK
/-- The same where the frame was written out ahead of it ('simp only [Act.put, ..]'). -/
theorem step_append_out {P : Program} {o : Oper} {a : Act} {K : Act → World → Prop} {Q : Exit → Act → World → Prop} {E : Prop} {b : Bool} (hb : b = true) (x y : Operand) (t : TypeId) (ho : o.op = .call { callee := .builtin .append, args := #[x, y], argTypes := #[t, t] })
    (v u r : Value) (w' : World) (hx : a.eval x = v) (hy : a.eval y = u) (hrun : (Builtin.append_ #[t, t] o.type #[v, u]).run P w = .ok r w') (hK : K (a.put o.dst r) w') : if b = true then Oper.wp P o a w K Q else E := by
  rw [if_pos hb]
  unfold Oper.wp
  simp [execOp, ho, resolve, invoke, builtin, hx, hy, hrun, Result.andThen]
  exact hK
theorem grown_step {w w1 w2 : World} {row row1 : Option Nat} (h : w.grownBy w1 row) (h2 : w1.grownBy w2 row1) (hr : row1 = row ∨ ∀ b, row1 = some b → w.heap.size ≤ b) : w.grownBy w2 row :=
  ⟨h2.os.trans h.os, h2.tape.trans h.tape, h2.output.trans h.output, Nat.le_trans h.size h2.size, fun k hk hne => by
    rw [h2.block k (Nat.lt_of_lt_of_le hk h.size) (fun e => by
      rcases hr with hr | hr
      · exact hne (by rw [e, hr])
      · have := hr k e.symm; omega), h.block k hk hne]⟩
end
end Go.Proofs.Yteoibolompiohaa
