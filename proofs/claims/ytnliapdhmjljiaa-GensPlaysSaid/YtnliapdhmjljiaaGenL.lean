/- The walk of put. Conditions: as each theorem says. -/
import Derived.Test.YtnliapdhmjljiaaGenK
import Derived.Maps.AppendAt
import Derived.Deep.DeepMust
namespace Go.Proofs.Ytnliapdhmjljiaa
open Go.RowKit

theorem PutsAt.form {w : World} {v : Value} {l : List Int} (h : PutsAt w v l) : ∃ a c, v = .slice a l.length c := by
  rcases h with ⟨h, rfl⟩ | ⟨b, o, c, cur, h, _⟩
  · exact ⟨none, 0, h⟩
  · exact ⟨_, _, h⟩
theorem PutsAt.grew {w w' : World} {v : Value} {l : List Int} (h : PutsAt w v l) (hb : Below w.heap.size w w') : PutsAt w' v l := h.kept (fun b e => hb.block b (h.lt e))
theorem Foot.trans {F : Nat → Prop} {a b c : World} (hab : a.heap.size ≤ b.heap.size) (hbc : b.heap.size ≤ c.heap.size) {i : Nat} (h : Foot (Foot F a b) b c i) : Foot F a c i := by
  rcases h with (h | ⟨h1, h2⟩) | ⟨h1, h2⟩
  · exact .inl h
  · exact .inr ⟨h1, by omega⟩
  · exact .inr ⟨by omega, h2⟩
theorem Apart.foot {F : Nat → Prop} {a b c : World} (h : Apart F a b) (k : Apart (Foot F a b) b c) : Apart F a c := h.trans k (fun i hi => by rcases hi with hi | ⟨hi, _⟩; exact .inl hi; exact .inr hi)
theorem KeyIn.foot {F : Nat → Prop} {kb : Nat} {s : Ks} {a b c : World} (h : KeyIn (Foot (Foot F a b) b c) kb s c) (hab : a.heap.size ≤ b.heap.size) (hbc : b.heap.size ≤ c.heap.size) : KeyIn (Foot F a c) kb s c := by
  obtain ⟨u, ps, h⟩ := h
  refine ⟨u, ps, h.wider (fun i hi => Foot.trans hab hbc hi) (fun i hi => ?_)⟩
  rcases hi with hi | hi
  · exact h.lt i (.inl (.inl hi))
  · exact hi.2
section
variable {F : Nat → Prop} {kb : Nat} {s : Ks} {u : Value} {ps : List Value} {w : World}
/-- A put in the open generation. -/
theorem put_end (h : KeyAt F kb s u ps w) {g cap m : Nat} (hu : u = .slice (some ⟨g, 0, none⟩) (m + 1) cap) (hm : s.gs.length = m + 1) (ho : openB s.gs = true) (h2 : m < ps.length) (rev : Int) (w0 : World) (v' : Value) (w1 : World)
    (h0 : Below w.heap.size w w0) (hp : PutsAt w1 v' ((s.gs[m]'(by omega)).puts ++ [rev])) (hg : w0.grownBy w1 ps[m].ownBlock) (hn : ∀ b, v'.ownBlock = some b → ps[m].ownBlock = some b ∨ w0.heap.size ≤ b) :
    KeyIn (Foot F w (w1.setCell ⟨g, m * 4 + 2, none⟩ v')) kb ⟨putG s.gs rev, s.last⟩ (w1.setCell ⟨g, m * 4 + 2, none⟩ v') ∧ Apart F w (w1.setCell ⟨g, m * 4 + 2, none⟩ v') := by
  have hgF : F g := (h.uF g (by rw [hu]; rfl)).1
  have hk := h.grew h0
  have hpF : ∀ b, ps[m].ownBlock = some b → F b := fun b e => (h.pF _ (List.getElem_mem h2) b e).1
  have := hk.setP (g := g) (cap := cap) (by rw [hm]; exact hu) m 2 (by omega) h2 (by omega) v' { s.gs[m]'(by omega) with puts := (s.gs[m]'(by omega)).puts ++ [rev] } v' w1 rfl
    (fun b hb hne => hg.block b (hk.lt b hb) (fun e => hne e.symm)) hp hn hg.size
  refine ⟨⟨u, ps.set m v', ?_⟩, ?_⟩
  · rw [putG_open s.gs m rev hm ho]
    have hsz := h0.size
    have hs0 := hg.size
    refine this.wider (fun i hi => ?_) (fun i hi => ?_)
    · rcases hi with hi | hi
      · exact .inl hi
      · rcases hn i hi with e | e
        · exact .inl (hpF i e)
        · exact .inr ⟨by omega, this.lt i (.inr hi)⟩
    · rcases hi with hi | hi
      · exact this.lt i (.inl hi)
      · exact hi.2
  · refine ((Apart.of_below h0).trans (Apart.of_grown (F := F) hg (fun k e => .inl (hpF k e))) (fun i hi => .inl hi)).trans (Apart.set w1 g _ _ hgF) (fun i hi => .inl hi)
/-- What the walk wants to know ahead of an append to the open generation's puts. -/
structure PutReady (F : Nat → Prop) (kb : Nat) (s : Ks) (rev : Int) (w : World) (g m : Nat) (v : Value) (l : List Int) : Prop where
  cell : w.cell? ⟨g, m * 4 + 2, none⟩ = some v
  frozen : w.frozen? ⟨g, m * 4 + 2, none⟩ = false
  puts : PutsAt (w.alloc (.cells #[.int .i64 rev] IntT)) v l
  small : l.length + 1 ≤ 1000000
  new : (w.alloc (.cells #[.int .i64 rev] IntT)).cell? ⟨w.heap.size, 0, none⟩ = some (.int .i64 rev)
  kept : ∀ w1, (w.alloc (.cells #[.int .i64 rev] IntT)).grownBy w1 v.ownBlock → w1.cell? ⟨g, m * 4 + 2, none⟩ = some v ∧ w1.frozen? ⟨g, m * 4 + 2, none⟩ = false
  fin : ∀ v' w1, PutsAt w1 v' (l ++ [rev]) → (w.alloc (.cells #[.int .i64 rev] IntT)).grownBy w1 v.ownBlock → (∀ b, v'.ownBlock = some b → v.ownBlock = some b ∨ (w.alloc (.cells #[.int .i64 rev] IntT)).heap.size ≤ b) →
    KeyIn (Foot F w (w1.setCell ⟨g, m * 4 + 2, none⟩ v')) kb ⟨putG s.gs rev, s.last⟩ (w1.setCell ⟨g, m * 4 + 2, none⟩ v') ∧ Apart F w (w1.setCell ⟨g, m * 4 + 2, none⟩ v')
theorem put_ready (h : KeyAt F kb s u ps w) {g cap m : Nat} (hu : u = .slice (some ⟨g, 0, none⟩) (m + 1) cap) (hm : s.gs.length = m + 1) (ho : openB s.gs = true) (h2 : m < ps.length) (hpl : ∀ g ∈ s.gs, g.puts.length + 1 ≤ 1000000) (rev : Int) :
    PutReady F kb s rev w g m ps[m] (s.gs[m]'(by omega)).puts := by
  have hc := h.gcell (by rw [hm]; exact hu) m (by omega) h2 2 (by omega)
  have hlt : g < w.heap.size := h.lt g (h.uF g (by rw [hu]; rfl)).1
  have hne : ps[m].ownBlock ≠ some g := fun e => (h.pF _ (List.getElem_mem h2) g e).2.2 (by rw [hu]; rfl)
  have hc3 : w.cell? ⟨g, m * 4 + 2, none⟩ = some ps[m] := by rw [hc.1]; rfl
  refine ⟨hc3, hc.2, (h.puts m (by omega) h2).grew (alloc_below w _), hpl _ (List.getElem_mem (show m < s.gs.length by omega)), BlkAt.cell (BlkAt.alloc_new w [.int .i64 rev] IntT) rfl, fun w1 hg => ?_, fun v' w1 => put_end h hu hm ho h2 rev _ v' w1 (alloc_below w _)⟩
  have hb : w1.heap[g]? = w.heap[g]? := by
    rw [hg.block g (by simp; omega) (fun e => hne e.symm)]
    exact Below.heap_alloc _ _ _ hlt
  exact ⟨(World.cell?_of_block (a := ⟨g, m * 4 + 2, none⟩) hb).trans hc3, (World.frozen?_of_block (a := ⟨g, m * 4 + 2, none⟩) hb).trans hc.2⟩
set_option maxRecDepth 100000 in
set_option maxHeartbeats 400000 in
theorem put_yes (h : KeyAt F kb s u ps w) (ho : openB s.gs = true) (hl : s.gs.length ≤ 1000000) (hpl : ∀ g ∈ s.gs, g.puts.length + 1 ≤ 1000000) (rev : Int) : Calls Try.prog 34 #[.pointer (some ⟨kb, 0, none⟩), .int .i64 rev] w fun e w' => e = .returned (.int .i64 0) ∧ KeyIn (Foot F w w') kb ⟨putG s.gs rev, s.last⟩ w' ∧ Apart F w w' := by
  obtain ⟨g, cap, m, hu, hm⟩ := h.last ho
  have h2 : m < ps.length := by rw [h.len]; omega
  have hopen := Lib.hid (open_yes h hu hm ho hl)
  have HR := Lib.hid (put_ready h hu hm ho h2 hpl rev)
  obtain ⟨a, c, hv⟩ := (h.puts m (by omega) h2).form
  generalize ps[m] = v at *
  generalize (s.gs[m]'(by omega)).puts = l at *
  have hc3 := HR.out.cell
  have hf3 := HR.out.frozen
  clear h hu hm ho h2 hl hpl
  subst hv
  go_enter Try.func34, Try.ntmps34
  go_wp2_with (
    first
    | (go_at_call 39; (with_reducible refine hopen.out.mono ?_); rintro e w' ⟨rfl, rfl⟩)
    | (at_builtin; refine wpList_append_puts rfl _ _ rfl _ _ rfl HR.out.puts rev ⟨w'.heap.size, 0, none⟩ 1 rfl HR.out.new HR.out.small ?_; intro v' w1 hp1 hg1 hn1; obtain ⟨a1, c1, rfl⟩ := hp1.form; obtain ⟨hcc, hff⟩ := HR.out.kept w1 hg1; have HP := Lib.hid hp1; clear hp1))
  go_ret
  exact ⟨rfl, HR.out.fin _ _ (by have := HP.out; rwa [List.length_append] at this) hg1 (fun b hb => hn1 b (by rw [List.length_append]; exact hb))⟩
theorem step_put {w : World} {s : Ks} {u : Value} {ps : List Value} (h : KeyAt F kb s u ps w) (ho : openB s.gs = false) (rev : Int) (u' : Value) (w1 : World)
    (hown : w1.ownsRow 0 GnT 4 u' (s.gs.length + 1) (gnRow s.gs ps ++ gnCells ⟨rev, 0, [], 0⟩ (.slice none 0 0))) (w0 : World) (h0 : Below w.heap.size w w0) (hgr : w0.grownBy w1 u.ownBlock) (hat : u'.ownBlock = u.ownBlock ∨ u'.ownBlock = some w0.heap.size) :
    KeyAt (Foot F w (w1.setCell ⟨kb, 0, none⟩ u')) kb ⟨s.gs ++ [⟨rev, 0, [], 0⟩], s.last⟩ u' (ps ++ [.slice none 0 0]) (w1.setCell ⟨kb, 0, none⟩ u') ∧ Apart F w (w1.setCell ⟨kb, 0, none⟩ u') := by
  have hk := h.grew h0
  have := hk.pushed ⟨rev, 0, [], 0⟩ rfl u' w1 hown hgr hat
  have hsz := h0.size
  refine ⟨this.wider (fun i hi => ?_) (fun i hi => ?_), ((Apart.of_below h0).trans (Apart.of_grown (F := F) hgr (fun k e => .inl (h.uF k e).1)) (fun i hi => .inl hi)).trans (Apart.set w1 kb _ _ h.kF) (fun i hi => .inl hi)⟩
  · rcases hi with hi | hi
    · exact .inl hi
    · rcases hat with e | e
      · exact .inl (h.uF i (by rw [← e]; exact hi)).1
      · have hl := this.lt i (.inr hi)
        rw [e] at hi
        simp at hi
        exact .inr ⟨by omega, hl⟩
  · rcases hi with hi | hi
    · exact this.lt i (.inl hi)
    · exact hi.2
theorem own_slice {w : World} {base e size n : Nat} {v : Value} {xs : List Value} (h : w.ownsRow base e size v n xs) : ∃ a c, v = .slice a n c := by
  rcases h.2 with ⟨rfl, rfl⟩ | ⟨g, cap, cur, rfl, _⟩
  · exact ⟨none, 0, rfl⟩
  · exact ⟨_, _, rfl⟩
set_option maxRecDepth 100000 in
set_option maxHeartbeats 400000 in
theorem put_no (h : KeyAt F kb s u ps w) (ho : openB s.gs = false) (hl : s.gs.length + 1 ≤ 1000000) (hpl : ∀ g ∈ s.gs, g.puts.length + 1 ≤ 1000000) (rev : Int) : Calls Try.prog 34 #[.pointer (some ⟨kb, 0, none⟩), .int .i64 rev] w fun e w' => e = .returned (.int .i64 0) ∧ KeyIn (Foot F w w') kb ⟨putG s.gs rev, s.last⟩ w' ∧ Apart F w w' := by
  obtain ⟨i0, hi, hz0, hz1, hz2⟩ := info_parts infoGn
  have hopen := Lib.hid (open_no h ho (by omega))
  have hpl2 : ∀ g ∈ (s.gs ++ [(⟨rev, 0, [], 0⟩ : Gn)]), g.puts.length + 1 ≤ 1000000 := by
    intro g hg
    rcases List.mem_append.1 hg with hg | hg
    · exact hpl g hg
    · simp at hg; subst hg; simp
  clear hpl
  have hown := (h.grew (alloc_below w (.cells #[.int .i64 rev, .int .i64 0, .slice none 0 0, .int .i64 0] GnT))).row
  have k0 := h.k0
  have hlt := h.lt kb h.kF
  have HN : Hid (u.ownBlock ≠ some kb) := Lib.hid (fun e => (h.uF kb e).2 rfl)
  have HX : Hid (∀ j v, ([.int .i64 rev, .int .i64 0, .slice none 0 0, .int .i64 0] : List Value)[j]? = some v → (w.alloc (.cells #[.int .i64 rev, .int .i64 0, .slice none 0 0, .int .i64 0] GnT)).cell? ((⟨w.heap.size, 0, none⟩ : Addr).add j) = some v) := Lib.hid (fun j v hv => new_cells w _ GnT j v hv)
  have H1 : Hid (∀ v ∈ ([.int .i64 rev, .int .i64 0, .slice none 0 0, .int .i64 0] : List Value), v.oneCell' = true) := Lib.hid (by intro v hv; simp at hv; rcases hv with rfl | rfl | rfl | rfl <;> rfl)
  have hm1 : s.gs.length + 1 ≤ maxLen := by unfold maxLen; omega
  have hm2 : (s.gs.length + 1) * 48 ≤ 140737488355328 := by omega
  have HS := Lib.hid (fun u' w1 hown w0 h0 => step_put h ho rev u' w1 hown w0 h0)
  have HC : Hid (∀ w1, (w.alloc (.cells #[.int .i64 rev, .int .i64 0, .slice none 0 0, .int .i64 0] GnT)).grownBy w1 u.ownBlock → w1.cell? ⟨kb, 0, none⟩ = some u ∧ w1.frozen? ⟨kb, 0, none⟩ = false) := by
    apply Lib.hid
    intro w1 hg
    have hb : w1.heap[kb]? = w.heap[kb]? := by
      rw [hg.block kb (by simp; omega) (fun e => HN.out e.symm)]
      exact Below.heap_alloc _ _ _ hlt
    exact ⟨(World.cell?_of_block (a := ⟨kb, 0, none⟩) hb).trans k0, (World.frozen?_of_block (a := ⟨kb, 0, none⟩) hb).trans (BlkAt.frozen h.key 0)⟩
  obtain ⟨a, c, hv⟩ := own_slice h.row
  have HG : Hid (putG (s.gs ++ [⟨rev, 0, [], 0⟩]) rev = putG s.gs rev) := by
    apply Lib.hid
    have hpo := putG_open (s.gs ++ [(⟨rev, 0, [], 0⟩ : Gn)]) s.gs.length rev (by simp) (by rw [openB_last _ s.gs.length (by simp)]; simp)
    rw [putG_shut s.gs rev ho, hpo, List.set_append_right _ _ (by omega)]
    simp
  have HO : Hid (openB (s.gs ++ [⟨rev, 0, [], 0⟩]) = true) := Lib.hid (by rw [openB_last _ s.gs.length (by simp)]; simp)
  clear h ho
  subst hv
  go_enter Try.func34, Try.ntmps34
  go_wp2_with (
    first
    | (go_at_call 39; (with_reducible refine hopen.out.mono ?_); clear hopen; rintro e w' ⟨rfl, rfl⟩)
    | (at_builtin; refine wpList_append_own_at _ rfl _ _ 58 rfl 0 GnT i0 _ 4 48 Try.underlying58 hi hz0 hz1 hz2 rfl (by decide) _ _ _ rfl hown ⟨w'.heap.size, 0, none⟩ 1 1 [.int .i64 rev, .int .i64 0, .slice none 0 0, .int .i64 0] rfl rfl HX.out H1.out hm1 hm2 (Nat.zero_le _) ?_; intro u' w1 hown1 hg1 _ hat1; obtain ⟨a1, c1, rfl⟩ := own_slice hown1; obtain ⟨hcc, hff⟩ := HC.out w1 hg1))
  obtain ⟨hk2, ha2⟩ := HS.out _ w1 hown1 _ (alloc_below _ _) hg1 hat1
  clear HS hown1 hg1 hat1 hown HX H1 HC hcc hff k0 hm1 hm2
  obtain ⟨g, cap, m, hu, hm⟩ := hk2.last HO.out
  obtain rfl : m = s.gs.length := by simpa using hm.symm
  generalize w1.setCell ⟨kb, 0, none⟩ (.slice a1 (s.gs.length + 1) c1) = w2 at *
  have hl2 : (ps ++ [Value.slice none 0 0]).length = s.gs.length + 1 := hk2.len.trans hm
  have hR0 := put_ready hk2 hu hm HO.out (by omega) hpl2 rev
  have ev : (ps ++ [Value.slice none 0 0])[s.gs.length]'(by omega) = .slice none 0 0 := by
    have : ps.length = s.gs.length := by simpa using hl2
    rw [List.getElem_append_right (by omega)]; simp
  have el : ((s.gs ++ [(⟨rev, 0, [], 0⟩ : Gn)])[s.gs.length]'(by simp)).puts = [] := by simp
  rw [ev, el] at hR0
  have HR := Lib.hid hR0
  have hopen := Lib.hid (open_yes hk2 hu hm HO.out (by rw [hm]; omega))
  have hc3 := HR.out.cell
  have hf3 := HR.out.frozen
  have HFin : Hid (∀ W, KeyIn (Foot (Foot F w' w2) w2 W) kb ⟨putG (s.gs ++ [(⟨rev, 0, [], 0⟩ : Gn)]) rev, s.last⟩ W ∧ Apart (Foot F w' w2) w2 W → KeyIn (Foot F w' W) kb ⟨putG s.gs rev, s.last⟩ W ∧ Apart F w' W) :=
    Lib.hid (fun W hW => by rw [HG.out] at hW; exact ⟨hW.1.foot ha2.size hW.2.size, ha2.foot hW.2⟩)
  clear hk2 ha2 hR0 ev el hu hm hl2 hpl2
  refine hopen.out.mono ?_
  rintro e w3 ⟨rfl, rfl⟩
  go_wp2_with (at_builtin; refine wpList_append_puts rfl _ _ rfl _ _ rfl HR.out.puts rev ⟨w3.heap.size, 0, none⟩ 1 rfl HR.out.new HR.out.small ?_; intro v' w1 hp1 hg1 hn1; obtain ⟨a1, c1, rfl⟩ := hp1.form; obtain ⟨hcc, hff⟩ := HR.out.kept w1 hg1; have HP := Lib.hid hp1; clear hp1)
  go_ret
  exact ⟨rfl, HFin.out _ (HR.out.fin _ _ HP.out hg1 (fun b hb => hn1 b hb))⟩
end
end Go.Proofs.Ytnliapdhmjljiaa
