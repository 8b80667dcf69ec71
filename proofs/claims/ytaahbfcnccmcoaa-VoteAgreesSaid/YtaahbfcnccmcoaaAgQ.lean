/- What stands in memory in VoteAgrees. Conditions: as each theorem says. -/
import Derived.Test.YtaahbfcnccmcoaaAgP
import Derived.Test.YtaahbfcnccmcoaaVoteGr
import Derived.Test.YtaahbfcnccmcoaaVoteR
namespace Go.Proofs.Ytaahbfcnccmcoaa
open Go.RowKit

abbrev PtT : TypeId := 50
abbrev VoT : TypeId := 55
abbrev WyT : TypeId := 77
abbrev TdT : TypeId := 79
abbrev PoT : TypeId := 103
def whoCells (x : WhoS) : List Value := [.int .i64 x.me, .int .i64 x.nodes, .int .i64 x.z.1, .int .i64 x.z.2, .int .i64 x.ep]
def intCells (i : Int) : List Value := [.int .i64 i]
def ptrCells (g : Nat) : List Value := [ptrV g]
def pairCells (t : Nat × Nat) : List Value := [.int .i64 (t.1 : Int), .int .i64 (t.2 : Int)]
def ownB (L : List WhoS) (j : Nat) : Bal := match L[j]? with | some x => ⟨(j : Int), x.z.1, x.z.2, x.ep⟩ | none => zeroBal
theorem ownB_at (L : List WhoS) (j : Nat) (h : j < L.length) : ownB L j = ⟨(j : Int), L[j].z.1, L[j].z.2, L[j].ep⟩ := by unfold ownB; rw [List.getElem?_eq_getElem h]
def poll0 (L : List WhoS) (n j : Nat) : Poll := beginP (newP j n (ownB L j))
def wayV (f : Nat → Nat → Bool) : List Value := (List.range 49).map fun j => .bool (f (j / 7) (j % 7))
theorem wayV_get (f : Nat → Nat → Bool) (i k : Nat) (hi : i < 7) (hk : k < 7) : (wayV f)[i * 7 + k]? = some (.bool (f i k)) := by
  unfold wayV
  have h1 : (i * 7 + k) / 7 = i := by omega
  have h2 : (i * 7 + k) % 7 = k := by omega
  simp [show i * 7 + k < 49 by omega, h1, h2]
theorem wayV_set (f : Nat → Nat → Bool) (i k : Nat) (hi : i < 7) (hk : k < 7) (b : Bool) : (wayV f).set (i * 7 + k) (.bool b) = wayV (way1 f i k b) := by
  apply List.ext_getElem
  · simp [wayV]
  · intro j h1 h2
    have hj : j < 49 := by simpa [wayV] using h2
    rw [List.getElem_set]
    simp only [wayV, List.getElem_map, List.getElem_range, way1]
    by_cases e : i * 7 + k = j
    · rw [if_pos e, if_pos ⟨by omega, by omega⟩]
    · rw [if_neg e, if_neg (fun q => e (by omega))]
def noWay : Nat → Nat → Bool := fun _ _ => false
theorem wayV_none : wayV noWay = List.replicate 49 (.bool false) := by kernel_rfl
section
variable {α : Type} {T : TypeId} {k : Nat} {enc : α → List Value} {base : Nat} {v : Value} {L : List α} {w w' : World}
theorem Grow.other (h : Grow T k enc base v L w) {g : Nat} {T' : TypeId} {cs : List Value} (hb : BlkAt g T' cs w) (ht : T' ≠ T) (hg : w.grownBy w' (some g)) : Grow T k enc base v L w' := by
  refine World.ownsRow.kept h hg (Or.inr (fun e => ?_))
  rcases h.2 with ⟨rfl, _⟩ | ⟨g', cap, cur, rfl, _, hh, _⟩
  · simp [Value.ownBlock] at e
  · simp only [Value.ownBlock, Option.some.injEq] at e
    subst e
    unfold BlkAt at hb
    rw [hb] at hh
    simp only [Option.some.injEq, Obj.cells.injEq] at hh
    exact ht hh.2.1
end
set_option maxRecDepth 100000 in
theorem infoPt : (Try.prog.info? PtT).map (fun i => (i.zero, i.size, i.bytes)) = some (some (.pointer none), 1, 8) := by kernel_rfl
set_option maxRecDepth 100000 in
theorem infoTd : (Try.prog.info? TdT).map (fun i => (i.zero, i.size, i.bytes)) = some (some (.agg #[.int .i64 0, .int .i64 0]), 2, 16) := by kernel_rfl
theorem ptr_one (g : Nat) : ∀ u ∈ ptrCells g, u.oneCell' = true := by intro u hu; simp [ptrCells, ptrV] at hu; subst hu; rfl
theorem pair_one (t : Nat × Nat) : ∀ u ∈ pairCells t, u.oneCell' = true := by intro u hu; simp [pairCells] at hu; rcases hu with rfl | rfl <;> rfl
theorem vot_one (t : Vot) : ∀ u ∈ votCells t, u.oneCell' = true := by intro u hu; simp [votCells] at hu; rcases hu with rfl | rfl | rfl | rfl | rfl | rfl <;> rfl
set_option maxRecDepth 100000 in
theorem infoVo : (Try.prog.info? VoT).map (·.size) = some 6 := by kernel_rfl
/-- What stands in memory behind the first loop. -/
structure St (w0 : World) (n : Nat) (G : Nat → Nat) (P : Nat → Poll) (bb : Nat) (bv : Vot) (rb : Nat) (cur : List Value) (W : World) : Prop where
  best : BlkAt bb VoT (votCells bv) W
  row : BlkAt rb PtT cur W
  rowc : ∀ i, i < n → cur[i]? = some (ptrV (G i))
  polls : ∀ i, i < n → PollAt (G i) (P i) W
  inj : ∀ i j, i < n → j < n → G i = G j → i = j
  bel : Below w0.heap.size w0 W
  gN : ∀ i, i < n → w0.heap.size ≤ G i
/-- And behind the second. -/
structure Sw (w0 : World) (n : Nat) (G : Nat → Nat) (P : Nat → Poll) (bb : Nat) (bv : Vot) (rb : Nat) (cur : List Value) (wb : Nat) (wy : Nat → Nat → Bool) (W : World) : Prop extends St w0 n G P bb bv rb cur W where
  way : BlkAt wb WyT (wayV wy) W
  wN : w0.heap.size ≤ wb
section
variable {w0 : World} {n : Nat} {G : Nat → Nat} {P : Nat → Poll} {bb : Nat} {bv : Vot} {rb : Nat} {cur : List Value} {wb : Nat} {wy : Nat → Nat → Bool} {W W' : World}
theorem St.grew (h : St w0 n G P bb bv rb cur W) (hb : Below W.heap.size W W') : St w0 n G P bb bv rb cur W' :=
  ⟨h.best.grew hb, h.row.grew hb, h.rowc, fun i hi => BlkAt.grew (h.polls i hi) hb, h.inj, h.bel.trans (hb.mono h.bel.size), h.gN⟩
theorem Sw.grew (h : Sw w0 n G P bb bv rb cur wb wy W) (hb : Below W.heap.size W W') : Sw w0 n G P bb bv rb cur wb wy W' := ⟨h.toSt.grew hb, h.way.grew hb, h.wN⟩
theorem Sw.drew (h : Sw w0 n G P bb bv rb cur wb wy W) : Sw w0 n G P bb bv rb cur wb wy W.drew := h.grew ((Below.refl _ W).drew)
theorem blk_ne {g b : Nat} {T U : TypeId} {cs ds : List Value} {w : World} (h : BlkAt g T cs w) (k : BlkAt b U ds w) (hT : T ≠ U) : g ≠ b := by
  intro e
  subst e
  unfold BlkAt at h k
  rw [h] at k
  simp only [Option.some.injEq, Obj.cells.injEq] at k
  exact hT k.2.1
/-- Behind a write to one of the blocks of another kind. -/
theorem St.other (h : St w0 n G P bb bv rb cur W) {g : Nat} {T : TypeId} {cs : List Value} (hk : BlkAt g T cs W) (hN : w0.heap.size ≤ g) (h1 : T ≠ VoT) (h2 : T ≠ PtT) (h3 : T ≠ PoT) (hg : W.grownBy W' (some g)) : St w0 n G P bb bv rb cur W' :=
  ⟨h.best.grown hg (fun e => blk_ne hk h.best h1 (Option.some.inj e).symm), h.row.grown hg (fun e => blk_ne hk h.row h2 (Option.some.inj e).symm), h.rowc,
    fun i hi => BlkAt.grown (h.polls i hi) hg (fun e => blk_ne hk (h.polls i hi) h3 (Option.some.inj e).symm), h.inj, h.bel.grown hg h.bel.size (fun k hk => by rw [← Option.some.inj hk]; exact hN), h.gN⟩
theorem Sw.setWay (h : Sw w0 n G P bb bv rb cur wb wy W) {i k : Nat} (hi : i < 7) (hk : k < 7) (b : Bool) : Sw w0 n G P bb bv rb cur wb (way1 wy i k b) (W.setCell ⟨wb, i * 7 + k, none⟩ (.bool b)) := by
  refine ⟨h.toSt.other h.way h.wN (by decide) (by decide) (by decide) (grown_set W wb _ _), ?_, h.wN⟩
  rw [← wayV_set wy i k hi hk b]
  exact h.way.set _ _
theorem Sw.take (h : Sw w0 n G P bb bv rb cur wb wy W) {t : Nat} (ht : t < n) {p : Poll} (hP : PollAt (G t) p W') (hg : W.grownBy W' (some (G t))) : Sw w0 n G (upd P t p) bb bv rb cur wb wy W' := by
  have ht' := h.polls t ht
  refine ⟨⟨h.best.grown hg (fun e => blk_ne ht' h.best (by decide) (Option.some.inj e).symm), h.row.grown hg (fun e => blk_ne ht' h.row (by decide) (Option.some.inj e).symm), h.rowc, fun i hi => ?_, h.inj, h.bel.grown hg h.bel.size (fun k hk => by rw [← Option.some.inj hk]; exact h.gN t ht), h.gN⟩, h.way.grown hg (fun e => blk_ne ht' h.way (by decide) (Option.some.inj e).symm), h.wN⟩
  by_cases e : i = t
  · subst e; rw [upd_same]; exact hP
  · rw [upd_other _ _ _ e]
    exact BlkAt.grown (h.polls i hi) hg (fun q => e (h.inj i t hi ht (Option.some.inj q)))
/-- Behind a write to a row of another kind that the call made for itself. -/
theorem Sw.row_ (h : Sw w0 n G P bb bv rb cur wb wy W) {α : Type} {T : TypeId} {k : Nat} {enc : α → List Value} {base : Nat} {v : Value} {M : List α} (hM : Grow T k enc base v M W) (hB : w0.heap.size ≤ base) (h1 : VoT ≠ T) (h2 : PtT ≠ T) (h3 : PoT ≠ T) (h4 : WyT ≠ T) (hg : W.grownBy W' v.ownBlock) : Sw w0 n G P bb bv rb cur wb wy W' :=
  ⟨⟨hM.kept hg h.best h1, hM.kept hg h.row h2, h.rowc, fun i hi => hM.kept hg (h.polls i hi) h3, h.inj, hM.since hg h.bel hB, h.gN⟩, hM.kept hg h.way h4, h.wN⟩
end
/-- What the first loop has laid. -/
structure S1 (w0 : World) (n i : Nat) (G : Nat → Nat) (P : Nat → Poll) (bb : Nat) (bv : Vot) (v : Value) (W : World) : Prop where
  best : BlkAt bb VoT (votCells bv) W
  row : Grow PtT 1 ptrCells (w0.heap.size + 1) v ((List.range i).map G) W
  polls : ∀ j, j < i → PollAt (G j) (P j) W
  inj : ∀ j k, j < i → k < i → G j = G k → j = k
  bel : Below w0.heap.size w0 W
  gN : ∀ j, j < i → w0.heap.size ≤ G j
  bN : bb = w0.heap.size
section
variable {w0 : World} {n i : Nat} {G : Nat → Nat} {P : Nat → Poll} {bb : Nat} {bv : Vot} {v : Value} {W W' : World}
theorem S1.grew (h : S1 w0 n i G P bb bv v W) (hb : Below W.heap.size W W') : S1 w0 n i G P bb bv v W' :=
  ⟨h.best.grew hb, h.row.below hb, fun j hj => BlkAt.grew (h.polls j hj) hb, h.inj, h.bel.trans (hb.mono h.bel.size), h.gN, h.bN⟩
theorem S1.drew (h : S1 w0 n i G P bb bv v W) : S1 w0 n i G P bb bv v W.drew := h.grew ((Below.refl _ W).drew)
/-- A new poll is another block than all that there are. -/
theorem S1.fresh (h : S1 w0 n i G P bb bv v W) {g : Nat} (hg : W.heap.size ≤ g) : ∀ j, j < i → G j ≠ g := fun j hj e => by have := BlkAt.lt (h.polls j hj); omega
theorem S1.other (h : S1 w0 n i G P bb bv v W) {g : Nat} {cs : List Value} (hk : BlkAt g PoT cs W) (hN : w0.heap.size ≤ g) (hf : ∀ j, j < i → G j ≠ g) (hg : W.grownBy W' (some g)) : S1 w0 n i G P bb bv v W' :=
  ⟨h.best.grown hg (fun e => blk_ne hk h.best (by decide) (Option.some.inj e).symm), h.row.other hk (by decide) hg, fun j hj => BlkAt.grown (h.polls j hj) hg (fun e => hf j hj (Option.some.inj e)), h.inj, h.bel.grown hg h.bel.size (fun k hk => by rw [← Option.some.inj hk]; exact hN), h.gN, h.bN⟩
theorem S1.setBest (h : S1 w0 n i G P bb bv v W) {bv' : Vot} (hb : BlkAt bb VoT (votCells bv') W') (hg : W.grownBy W' (some bb)) : S1 w0 n i G P bb bv' v W' :=
  ⟨hb, h.row.other h.best (by decide) hg, fun j hj => BlkAt.grown (h.polls j hj) hg (fun e => blk_ne (h.polls j hj) h.best (by decide) (Option.some.inj e)), h.inj, h.bel.grown hg h.bel.size (fun k hk => by rw [← Option.some.inj hk, h.bN]; exact Nat.le_refl _), h.gN, h.bN⟩
theorem S1.append (h : S1 w0 n i G P bb bv v W) {g : Nat} {v' : Value} (hf : ∀ j, j < i → G j ≠ g) (hN : w0.heap.size ≤ g) (hp : PollAt g (P i) W) (hr : Grow PtT 1 ptrCells (w0.heap.size + 1) v' ((List.range i).map G ++ [g]) W') (hg : W.grownBy W' v.ownBlock) : S1 w0 n (i + 1) (upd G i g) P bb bv v' W' := by
  have hu : ∀ j, j < i → upd G i g j = G j := fun j hj => upd_other _ _ _ (by omega)
  refine ⟨h.row.kept hg h.best (by decide), ?_, fun j hj => ?_, fun j k hj hk e => ?_, h.row.since hg h.bel (by omega), fun j hj => ?_, h.bN⟩
  · rw [List.range_succ, List.map_append, List.map_cons, List.map_nil, upd_same]
    have : (List.range i).map (upd G i g) = (List.range i).map G := List.map_congr_left (fun j hj => hu j (List.mem_range.1 hj))
    rw [this]
    exact hr
  · by_cases e : j = i
    · subst e; rw [upd_same]; exact h.row.kept hg hp (by decide)
    · rw [hu j (by omega)]; exact h.row.kept hg (h.polls j (by omega)) (by decide)
  · by_cases e1 : j = i
    · by_cases e2 : k = i
      · omega
      · rw [e1, upd_same, hu k (by omega)] at e
        exact absurd e.symm (hf k (by omega))
    · by_cases e2 : k = i
      · rw [e2, upd_same, hu j (by omega)] at e
        exact absurd e (hf j (by omega))
      · rw [hu j (by omega), hu k (by omega)] at e
        exact h.inj j k (by omega) (by omega) e
  · by_cases e : j = i
    · subst e; rw [upd_same]; exact hN
    · rw [hu j (by omega)]; exact h.gN j (by omega)
/-- Behind the first loop. -/
theorem S1.done (h : S1 w0 n n G P bb bv v W) (hn : 1 ≤ n) : ∃ rb c cur, v = .slice (some ⟨rb, 0, none⟩) n c ∧ St w0 n G P bb bv rb cur W := by
  rcases h.row.2 with ⟨_, h0⟩ | ⟨g, cap, cur, hv, _, hh, _, _, _, hx⟩
  · simp at h0; omega
  · refine ⟨g, cap, cur.toList, by rw [hv]; simp, h.best, ?_, fun i hi => ?_, h.polls, h.inj, h.bel, h.gN⟩
    · unfold BlkAt; simpa using hh
    · have h1 := congrArg (fun l => l[i]?) hx
      simp only [List.length_map, List.length_range, Nat.mul_one] at h1
      rw [List.getElem?_take, if_pos hi] at h1
      rw [h1]
      have h2 := rowOf_get (enc := ptrCells) (k := 1) (fun _ => rfl) ((List.range n).map G) i (by simpa using hi) 0 (by omega)
      rw [Nat.mul_one, Nat.add_zero] at h2
      rw [h2]
      simp [ptrCells]
end
/-- The polls ahead of all telling. -/
theorem pi0 (L : List WhoS) (n j : Nat) (h1 : 1 ≤ n) (h7 : n ≤ 7) (hj : j < n) : Pi n (ownB L) j (poll0 L n j) := by
  refine ⟨begin_fit _ (new_fit j n _ h1 h7 hj), rfl, rfl, rfl, ?_, rfl, ⟨j, hj, rfl⟩, betterB_irrefl _, ?_⟩
  · intro i hi
    have : (poll0 L n j).dec = noDec := rfl
    simp only [this]
    unfold noDec
    rw [List.getElem_replicate]
  · show (noTold.set j (true, ownB L j)).getD j _ = (true, ownB L j)
    rw [getD_set' _ _ _ _ _ (by simp [noTold]; omega), if_pos rfl]
def way0 : Nat → Nat → Bool := fun i k => decide (i ≠ k)
theorem ok0 (L : List WhoS) (n : Nat) (h1 : 1 ≤ n) (h7 : n ≤ 7) : Ok n (ownB L) (poll0 L n) way0 :=
  ⟨fun i hi => pi0 L n i h1 h7 hi, fun i k _ _ hik hw => by unfold way0 at hw; simp [hik] at hw, fun i _ => by simp [way0]⟩
/-- What of the ways is set behind so many rows, and so many of the next row. -/
def wayK (n i k : Nat) : Nat → Nat → Bool := fun x y => if x < i then decide (x ≠ y) && decide (y < n) else if x = i then (if y < k then decide (x ≠ y) else false) else false
theorem wayK_step (n i k : Nat) : way1 (wayK n i k) i k (decide (i ≠ k)) = wayK n i (k + 1) := by
  funext x y
  unfold way1 wayK
  by_cases e : x = i ∧ y = k
  · obtain ⟨rfl, rfl⟩ := e
    rw [if_pos ⟨rfl, rfl⟩, if_neg (by omega), if_pos rfl, if_pos (by omega)]
  · rw [if_neg e]
    by_cases h1 : x < i
    · rw [if_pos h1, if_pos h1]
    · rw [if_neg h1, if_neg h1]
      by_cases h2 : x = i
      · rw [if_pos h2, if_pos h2]
        have : y ≠ k := fun q => e ⟨h2, q⟩
        by_cases h3 : y < k
        · rw [if_pos h3, if_pos (by omega)]
        · rw [if_neg h3, if_neg (by omega)]
      · rw [if_neg h2, if_neg h2]
theorem wayK_row (n i : Nat) : wayK n i n = wayK n (i + 1) 0 := by
  funext x y
  unfold wayK
  by_cases h1 : x < i
  · rw [if_pos h1, if_pos (by omega)]
  · rw [if_neg h1]
    by_cases h2 : x = i
    · rw [if_pos h2]
      by_cases h3 : y < n
      · rw [if_pos h3, if_pos (show x < i + 1 by omega), decide_eq_true h3, Bool.and_true]
      · rw [if_neg h3, if_pos (show x < i + 1 by omega), decide_eq_false h3, Bool.and_false]
    · rw [if_neg h2, if_neg (show ¬ x < i + 1 by omega)]
      by_cases h4 : x = i + 1 <;> simp [h4]
theorem wayK_zero (n : Nat) : wayK n 0 0 = noWay := by
  funext x y
  unfold wayK noWay
  by_cases h : x = 0 <;> simp [h]
/-- What of a row is set behind so many. -/
def wayR (wy : Nat → Nat → Bool) (t k : Nat) : Nat → Nat → Bool := fun x y => if x = t ∧ y < k then decide (y ≠ t) else wy x y
theorem wayR_step (wy : Nat → Nat → Bool) (t k : Nat) : way1 (wayR wy t k) t k (decide (k ≠ t)) = wayR wy t (k + 1) := by
  funext x y
  unfold way1 wayR
  by_cases e : x = t ∧ y = k
  · obtain ⟨rfl, rfl⟩ := e
    rw [if_pos ⟨rfl, rfl⟩, if_pos ⟨rfl, by omega⟩]
  · rw [if_neg e]
    by_cases h1 : x = t ∧ y < k
    · rw [if_pos h1, if_pos ⟨h1.1, by omega⟩]
    · rw [if_neg h1, if_neg (fun q => by have : y ≠ k := fun r => e ⟨q.1, r⟩; exact h1 ⟨q.1, by omega⟩)]
theorem wayR_zero (wy : Nat → Nat → Bool) (t : Nat) : wayR wy t 0 = wy := by
  funext x y
  unfold wayR
  rw [if_neg (by omega)]
/-- Ways that are the same where it matters. -/
theorem Ok.ways {n : Nat} {own : Nat → Bal} {P : Nat → Poll} {wy wy' : Nat → Nat → Bool} (h : Ok n own P wy) (e : ∀ i k, i < n → k < n → wy' i k = wy i k) : Ok n own P wy' :=
  ⟨h.pi, fun i k hi hk hik hw => h.told i k hi hk hik (by rw [← e i k hi hk]; exact hw), fun i hi => by rw [e i i hi hi]; exact h.diag i hi⟩
theorem pot_ways {n : Nat} {own : Nat → Bal} {P : Nat → Poll} {wy wy' : Nat → Nat → Bool} (e : ∀ i k, i < n → k < n → wy' i k = wy i k) : pot n own P wy' = pot n own P wy := by
  unfold pot
  rw [sumN_congr n (fun i => sumN n fun k => bit (wy' i k)) (fun i => sumN n fun k => bit (wy i k)) (fun i hi => sumN_congr _ _ _ (fun k hk => by rw [e i k hi hk]))]
/-- What is still to be told: of so many rows, and so many of the next row. -/
def todoK (wy : Nat → Nat → Bool) (n i k : Nat) : List (Nat × Nat) := (List.range i).flatMap (fun x => ((List.range n).filter (wy x)).map fun y => (x, y)) ++ ((List.range k).filter (wy i)).map fun y => (i, y)
theorem todoK_yes (wy : Nat → Nat → Bool) (n i k : Nat) (h : wy i k = true) : todoK wy n i (k + 1) = todoK wy n i k ++ [(i, k)] := by
  unfold todoK
  rw [List.range_succ, List.filter_append, List.map_append, List.append_assoc]
  simp [h]
theorem todoK_no (wy : Nat → Nat → Bool) (n i k : Nat) (h : wy i k = false) : todoK wy n i (k + 1) = todoK wy n i k := by
  unfold todoK
  rw [List.range_succ, List.filter_append, List.map_append]
  simp [h]
theorem todoK_row (wy : Nat → Nat → Bool) (n i : Nat) : todoK wy n i n = todoK wy n (i + 1) 0 := by
  unfold todoK
  rw [List.range_succ, List.flatMap_append]
  simp
theorem todoK_mem {wy : Nat → Nat → Bool} {n i : Nat} {t : Nat × Nat} (h : t ∈ todoK wy n i 0) : t.1 < i ∧ t.2 < n ∧ wy t.1 t.2 = true := by
  unfold todoK at h
  simp only [List.range_zero, List.filter_nil, List.map_nil, List.append_nil, List.mem_flatMap, List.mem_range, List.mem_map, List.mem_filter] at h
  obtain ⟨x, hx, y, ⟨hy, hw⟩, rfl⟩ := h
  exact ⟨hx, hy, hw⟩
theorem todoK_nil {wy : Nat → Nat → Bool} {n i : Nat} (h : todoK wy n i 0 = []) : ∀ x y, x < i → y < n → wy x y = false := by
  intro x y hx hy
  by_cases hw : wy x y = true
  · have : (x, y) ∈ todoK wy n i 0 := by
      unfold todoK
      simp only [List.range_zero, List.filter_nil, List.map_nil, List.append_nil, List.mem_flatMap, List.mem_range, List.mem_map, List.mem_filter]
      exact ⟨x, hx, y, ⟨hy, hw⟩, rfl⟩
    rw [h] at this
    cases this
  · simpa using hw
theorem todoK_len (wy : Nat → Nat → Bool) (n i k : Nat) (h7 : n ≤ 7) (hi : i ≤ 7) (hk : k ≤ 7) : (todoK wy n i k).length ≤ 56 := by
  unfold todoK
  rw [List.length_append, List.length_map]
  have h1 : (((List.range k).filter (wy i)).length) ≤ 7 := Nat.le_trans (List.length_filter_le _ _) (by simpa using hk)
  have h2 : ∀ m, m ≤ i → ((List.range m).flatMap (fun x => ((List.range n).filter (wy x)).map fun y => (x, y))).length ≤ m * 7 := by
    intro m
    induction m with
    | zero => intro _; simp
    | succ m ih =>
      intro hm
      rw [List.range_succ, List.flatMap_append, List.length_append, Nat.succ_mul]
      have := ih (by omega)
      have h3 : (((List.range n).filter (wy m)).length) ≤ 7 := Nat.le_trans (List.length_filter_le _ _) (by simpa using h7)
      simp only [List.flatMap_cons, List.flatMap_nil, List.append_nil, List.length_map]
      omega
  have := h2 i (Nat.le_refl _)
  omega
end Go.Proofs.Ytaahbfcnccmcoaa
