/- A key's rows appended to; the walks of put and tombstone. Conditions: as each theorem says. -/
import Derived.Test.YtnliapdhmjljiaaGenI
import Derived.ArgAppend
namespace Go.Proofs.Ytnliapdhmjljiaa
open Go.RowKit

theorem infoInt : (Try.prog.info? IntT).map (fun i => (i.zero, i.size, i.bytes)) = some (some (.int .i64 0), 1, 8) := by kernel_rfl
theorem infoGn : (Try.prog.info? GnT).map (fun i => (i.zero, i.size, i.bytes)) = some (some (.agg #[.int .i64 0, .int .i64 0, .slice none 0 0, .int .i64 0]), 4, 48) := by kernel_rfl
theorem puts_of_own {w : World} {base n : Nat} {v : Value} {l : List Int} (h : w.ownsRow base IntT 1 v n (l.map (Value.int .i64))) : PutsAt w v l ∧ ∀ b, v.ownBlock = some b → base ≤ b := by
  have hl : l.length = n := by have := h.1; simpa using this
  subst hl
  refine ⟨?_, own_base h⟩
  rcases h.2 with ⟨h1, h2⟩ | ⟨g, cap, cur, hv, hg, hh, hn, hm, hs, hx⟩
  · exact .inl ⟨h1, List.eq_nil_of_length_eq_zero h2⟩
  · refine .inr ⟨g, 0, cap, cur, hv, hh, by omega, hn, hm, fun j hj => ?_⟩
    have := congrArg (fun x : List Value => x[j]?) hx
    rw [List.getElem?_take, if_pos (by simpa using hj), Array.getElem?_toList] at this
    simp only [Nat.zero_add, this]
    simp [hj]
/-- append of one number to a row of puts: in place, or anew. -/
theorem append_puts {w : World} {v : Value} {l : List Int} (h : PutsAt w v l) (x : Int) (ty : TypeId) (ad : Addr) (c : Nat) (hx : w.cell? ad = some (.int .i64 x)) (hl : l.length + 1 ≤ 1000000) :
    ∃ v' w', (Builtin.append_ #[66, 66] ty #[v, .slice (some ad) 1 c]).run Try.prog w = .ok v' w' ∧ PutsAt w' v' (l ++ [x]) ∧ w.grownBy w' v.ownBlock ∧ (∀ b, v'.ownBlock = some b → v.ownBlock = some b ∨ w.heap.size ≤ b) := by
  obtain ⟨i0, hi, hz0, hz1, hz2⟩ := info_parts infoInt
  have hnews : ∀ j u, ([Value.int .i64 x] : List Value)[j]? = some u → w.cell? (ad.add j) = some u := by
    intro j u hj
    match j, hj with
    | 0, hj => simp at hj; subst hj; have : ad.add 0 = ad := by unfold Addr.add; simp
               rw [this]; exact hx
    | j + 1, hj => simp at hj
  have h1 : ∀ u ∈ ([Value.int .i64 x] : List Value), u.oneCell' = true := by intro u hu; simp at hu; subst hu; rfl
  rcases h with ⟨rfl, rfl⟩ | ⟨b, o, cap, cur, rfl, hh, hoc, hlc, hcm, hget⟩
  · obtain ⟨v', w', hr, hown, hg, _⟩ := run_append_own (P := Try.prog) w w.heap.size 66 ty IntT i0 (.int .i64 0) 1 8 Try.underlying66 hi hz0 hz1 hz2 rfl (by decide) (.slice none 0 0) 0 [] (World.ownsRow_nil w _ IntT 1) ad 1 c [.int .i64 x] rfl hnews h1 (by unfold maxLen; omega) (by omega) (Nat.le_refl _)
    obtain ⟨p1, p2⟩ := puts_of_own (l := [x]) (by simpa using hown)
    exact ⟨v', w', hr, by simpa using p1, hg, fun b hb => .inr (p2 b hb)⟩
  · by_cases hroom : l.length + 1 ≤ cap
    · have hr := run_append_room_cells (P := Try.prog) w 66 ty IntT i0 Try.underlying66 hi b o l.length cap ad 1 c [.int .i64 x] (by rw [hz1]; rfl) hnews h1 hroom
        (fun j hj => by
          rw [hz1, Nat.mul_one, Lib.cell_of_heap hh]
          simp at hj; subst hj
          simp; omega) (fun j hj => Lib.frozen_of_heap hh _)
      rw [hz1, Nat.mul_one] at hr
      refine ⟨_, _, hr, .inr ⟨b, o, cap, cur.setIfInBounds (o + l.length) (.int .i64 x), by simp, Lib.heap_setCell_same (i := o + l.length) hh _, by simpa using hoc, by simpa using hroom, hcm, ?_⟩, grown_sets _ _ _ _, fun b' hb => .inl hb⟩
      intro j hj
      by_cases e : j = l.length
      · subst e
        rw [Array.getElem?_setIfInBounds_self_of_lt (by omega)]
        simp
      · have hj' : j < l.length := by simp at hj; omega
        rw [Array.getElem?_setIfInBounds_ne (by omega), hget j hj', List.getElem_append_left hj']
    · obtain ⟨v', w', hr, hown, hg⟩ := run_append_arg_grows (P := Try.prog) w 66 ty IntT i0 (.int .i64 0) 1 8 Try.underlying66 hi hz0 hz1 hz2 rfl (by decide) ⟨b, o, none⟩ l.length cap (l.map (Value.int .i64)) (by simp)
        (fun j u hj => by
          have hjl : j < l.length := by have := (List.getElem?_eq_some_iff.1 hj).1; simpa using this
          rw [Addr.add_lit, Lib.cell_of_heap hh, hget j hjl]
          simpa [hjl] using hj) ad 1 c [.int .i64 x] rfl hnews (by omega) (by unfold maxLen; omega) (by omega)
      obtain ⟨p1, p2⟩ := puts_of_own (l := l ++ [x]) (by simpa using hown)
      exact ⟨v', w', hr, p1, ⟨hg.os, hg.tape, hg.output, hg.size, fun k hk _ => hg.block k hk (by simp)⟩, fun b' hb => .inr (p2 b' hb)⟩
theorem wpList_append_puts {ops : Array Oper} {rest : List Oper} {o : Oper} {a : Act} {w : World} {Q : Exit → Act → World → Prop} (hgd : o.guard = none) (s x : Operand)
    (ho : o.op = .call { callee := .builtin .append, args := #[s, x], argTypes := #[66, 66] }) (v : Value) (l : List Int) (hs : a.eval s = v) (h : PutsAt w v l)
    (y : Int) (ad : Addr) (c : Nat) (hx : a.eval x = .slice (some ad) 1 c) (hc : w.cell? ad = some (.int .i64 y)) (hl : l.length + 1 ≤ 1000000)
    (hK : ∀ v' w', PutsAt w' v' (l ++ [y]) → w.grownBy w' v.ownBlock → (∀ b, v'.ownBlock = some b → v.ownBlock = some b ∨ w.heap.size ≤ b) → wpList Try.prog ops Q rest (a.put o.dst v') w') :
    wpList Try.prog ops Q (o :: rest) a w := by
  refine wpList_plain hgd fun K hK' => ?_
  obtain ⟨v', w', hr, h2, h3, h4⟩ := append_puts h y o.type ad c hc hl
  unfold Oper.wp execOp
  simp only [ho, resolve, invoke, builtin, Sem.run_bind, Sem.run_pure, Result.andThen_ok, List.map_toArray, List.map_cons, List.map_nil, hs, hx, hr]
  exact hK' _ _ (hK v' w' h2 h3 h4)
/-- A generation more. -/
theorem KeyAt.pushed {F : Nat → Prop} {kb : Nat} {s : Ks} {u : Value} {ps : List Value} {w : World} (h : KeyAt F kb s u ps w) (g' : Gn) (hg' : g'.puts = []) (u' : Value) (w1 : World)
    (hown : w1.ownsRow 0 GnT 4 u' (s.gs.length + 1) (gnRow s.gs ps ++ gnCells g' (.slice none 0 0))) (hgr : w.grownBy w1 u.ownBlock) (hat : u'.ownBlock = u.ownBlock ∨ u'.ownBlock = some w.heap.size) :
    KeyAt (fun b => F b ∨ u'.ownBlock = some b) kb ⟨s.gs ++ [g'], s.last⟩ u' (ps ++ [.slice none 0 0]) (w1.setCell ⟨kb, 0, none⟩ u') := by
  have hukb : ∀ b, u'.ownBlock = some b → b ≠ kb := fun b hb => by
    rcases hat with e | e
    · exact (h.uF b (by rw [← e]; exact hb)).2
    · rw [e] at hb
      have := h.lt kb h.kF
      simp at hb; omega
  have hkb : w1.heap[kb]? = w.heap[kb]? := hgr.block kb (h.lt kb h.kF) (fun e => (h.uF kb e.symm).2 rfl)
  have hset : ∀ b, b ≠ kb → (w1.setCell ⟨kb, 0, none⟩ u').heap[b]? = w1.heap[b]? := fun b hb => Below.heap_setCell _ _ _ _ hb
  have hub : ∀ v ∈ ps, ∀ b, v.ownBlock = some b → u'.ownBlock ≠ some b := fun v hv b e e2 => by
    have hp := h.pF v hv b e
    rcases hat with e3 | e3
    · exact hp.2.2 (by rw [← e3]; exact e2)
    · have := h.lt b hp.1
      rw [e3] at e2; simp at e2; omega
  refine ⟨?_, ?_, by simp [h.len], ?_, .inl h.kF, fun g hg => ⟨.inr hg, hukb g hg⟩, ?_, ?_, ?_⟩
  · have hkey := h.key
    have : BlkAt kb KeyT [u, .int .i64 s.last] w1 := by unfold BlkAt at hkey ⊢; rw [hkb]; exact hkey
    exact this.set 0 u'
  · have e : gnRow (s.gs ++ [g']) (ps ++ [.slice none 0 0]) = gnRow s.gs ps ++ gnCells g' (.slice none 0 0) := by
      unfold gnRow
      rw [List.zipWith_append h.len.symm]
      simp
    have hl : (s.gs ++ [g']).length = s.gs.length + 1 := by simp
    show (w1.setCell _ _).ownsRow 0 GnT 4 u' (s.gs ++ [g']).length (gnRow (s.gs ++ [g']) _)
    rw [e, hl]
    exact ownsRow_kept hown (fun g hg => hset g (hukb g hg))
  · intro i h1 h2
    by_cases hi : i < s.gs.length
    · have hi2 : i < ps.length := by rw [h.len]; exact hi
      have := h.puts i hi hi2
      simp only [List.getElem_append_left hi, List.getElem_append_left hi2]
      refine this.kept (fun b e => ?_)
      have hp := h.pF _ (List.getElem_mem hi2) b e
      rw [hset b hp.2.1]
      exact hgr.block b (h.lt b hp.1) (fun e2 => hp.2.2 e2.symm)
    · have e1 : i = s.gs.length := by simp at h1; omega
      subst e1
      have hl := h.len
      have ha : (s.gs ++ [g'])[s.gs.length] = g' := by simp
      have hb : (ps ++ [Value.slice none 0 0])[s.gs.length] = .slice none 0 0 := by
        rw [List.getElem_append_right (by omega)]; simp
      show PutsAt _ ((ps ++ [Value.slice none 0 0])[s.gs.length]) ((s.gs ++ [g'])[s.gs.length]).puts
      rw [ha, hb, hg']
      exact .inl ⟨rfl, rfl⟩
  · intro v hv b hb
    rcases List.mem_append.1 hv with hv | hv
    · obtain ⟨a1, a2, a3⟩ := h.pF v hv b hb
      exact ⟨.inl a1, a2, hub v hv b hb⟩
    · simp at hv; subst hv; simp [Value.ownBlock] at hb
  · intro (i : Nat) (j : Nat) b hi hj
    have key : ∀ k : Nat, ((ps ++ [Value.slice none 0 0])[k]?.bind Value.ownBlock) = some b → (ps[k]?.bind Value.ownBlock) = some b := by
      intro k hk
      by_cases e : k < ps.length
      · rw [List.getElem?_append_left e] at hk; exact hk
      · rw [List.getElem?_append_right (by omega)] at hk
        by_cases e2 : k - ps.length = 0
        · rw [e2] at hk; simp [Value.ownBlock] at hk
        · rw [List.getElem?_eq_none (by simp; omega)] at hk; simp at hk
    exact h.nod i j b (key i hi) (key j hj)
  · intro b hb
    have hsz : (w1.setCell ⟨kb, 0, none⟩ u').heap.size = w1.heap.size := by simp [World.setCell]
    rw [hsz]
    rcases hb with hb | hb
    · exact Nat.lt_of_lt_of_le (h.lt b hb) hgr.size
    · rcases hown.2 with ⟨e, _⟩ | ⟨g, cap, cur, e, _, hh, _⟩
      · rw [e] at hb; simp [Value.ownBlock] at hb
      · rw [e] at hb; simp only [Value.ownBlock, Option.some.injEq] at hb
        subst hb
        exact (Array.getElem?_eq_some_iff.1 hh).1
theorem Apart.set {F : Nat → Prop} (w : World) (g i : Nat) (v : Value) (hg : F g) : Apart F w (w.setCell ⟨g, i, none⟩ v) :=
  .of_grown (grown_set w g i v) (fun k hk => .inl (by simp at hk; subst hk; exact hg))
theorem Apart.alloc {F : Nat → Prop} (w : World) (o : Obj) : Apart F w (w.alloc o) := .of_below (alloc_below w o)
theorem putG_open : ∀ (gs : List Gn) (m : Nat) (rev : Int) (hm : gs.length = m + 1), openB gs = true → putG gs rev = gs.set m { gs[m]'(by omega) with puts := (gs[m]'(by omega)).puts ++ [rev] } := by
  intro gs
  induction gs with
  | nil => intro m rev hm; simp at hm
  | cons g gs ih =>
    intro m rev hm ho
    cases gs with
    | nil =>
      obtain rfl : m = 0 := by simpa using hm.symm
      have : g.fin = 0 := by simpa [openB] using ho
      simp [putG, this]
    | cons h gs =>
      obtain ⟨k, rfl⟩ : ∃ k, m = k + 1 := ⟨m - 1, by simp at hm; omega⟩
      have := ih k rev (by simpa using hm) ho
      show g :: putG (h :: gs) rev = _
      rw [this]; rfl
theorem putG_shut : ∀ (gs : List Gn) (rev : Int), openB gs = false → putG gs rev = gs ++ [⟨rev, 0, [rev], 0⟩] := by
  intro gs
  induction gs with
  | nil => intro rev _; rfl
  | cons g gs ih =>
    intro rev ho
    cases gs with
    | nil =>
      have : g.fin ≠ 0 := by simpa [openB] using ho
      simp [putG, this]
    | cons h gs =>
      show g :: putG (h :: gs) rev = _
      rw [ih rev ho]; rfl
theorem tombG_set : ∀ (gs : List Gn) (m : Nat) (rev : Int) (hm : gs.length = m + 1), tombG gs rev = gs.set m { gs[m]'(by omega) with fin := rev } := by
  intro gs
  induction gs with
  | nil => intro m rev hm; simp at hm
  | cons g gs ih =>
    intro m rev hm
    cases gs with
    | nil =>
      obtain rfl : m = 0 := by simpa using hm.symm
      rfl
    | cons h gs =>
      obtain ⟨k, rfl⟩ : ∃ k, m = k + 1 := ⟨m - 1, by simp at hm; omega⟩
      have := ih k rev (by simpa using hm)
      show g :: tombG (h :: gs) rev = _
      rw [this]; rfl
end Go.Proofs.Ytnliapdhmjljiaa
