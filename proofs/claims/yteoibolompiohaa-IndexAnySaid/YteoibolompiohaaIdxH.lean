/- The walk of Next. Conditions: as each theorem says. -/
import Derived.Test.YteoibolompiohaaIdxC
namespace Go.Proofs.Yteoibolompiohaa
open Go.RowKit Go.Shelf
attribute [local go_sem] Oper.semAt_some

theorem own_blk {B g : Nat} {T : TypeId} {cs : List Value} {W W' : World} {row : Option Nat} (h : BlkAt g T cs W) (hg : W.grownBy W' row) (hr : ∀ r, row = some r → B ≤ r ∧ ∃ o : Obj, W.heap[r]? = some o ∧ o.isCells = false) : BlkAt g T cs W' := by
  refine h.grown hg (fun e => ?_)
  obtain ⟨_, o, ho, hc⟩ := hr g e.symm
  unfold BlkAt at h
  rw [h] at ho
  cases ho
  cases hc
theorem own_grow {α : Type} {T : TypeId} {k : Nat} {enc : α → List Value} {base B : Nat} {v : Value} {L : List α} {W W' : World} {row : Option Nat} (h : Grow T k enc base v L W) (hg : W.grownBy W' row) (hr : ∀ r, row = some r → B ≤ r ∧ ∃ o : Obj, W.heap[r]? = some o ∧ o.isCells = false) : Grow T k enc base v L W' := by
  refine h.kept2 hg (fun b hb e => ?_)
  obtain ⟨cs, hh⟩ := h.block hb
  obtain ⟨_, o, ho, hc⟩ := hr b e
  rw [hh] at ho
  cases ho
  cases hc
theorem keepsFrom_below {B : Nat} {W W' : World} (h : Below W.heap.size W W') : KeepsFrom B W W' := ⟨h.size, fun k o _ hk _ => (h.block k (Array.getElem?_eq_some_iff.1 hk).1).trans hk⟩
theorem putObj_blk {g D : Nat} {T : TypeId} {cs : List Value} {w : World} (h : BlkAt g T cs w) (o : Obj) (hne : g ≠ D) : BlkAt g T cs (w.putObj D o) := by
  unfold BlkAt at *
  rw [World.putObj_heap_other (fun e => hne e)]; exact h
def nextP (L : List Pr) : Pr × Bool := match L with | [] => (([], 0), false) | p :: _ => (p, true)
def NextSaid (w : World) (L : List Pr) (e : Ending) (w' : World) : Prop := e = .returned (.tuple #[prV (nextP L).1, .bool (nextP L).2]) ∧ Below w.heap.size w w'
theorem next_results (x : Pr) (t : Bool) (tmps : Array Value) (w : World) (g1 g2 : Nat) (h4 : tmps.getD 4 undef = .pointer (some ⟨g1, 0, none⟩)) (h5 : tmps.getD 5 undef = .pointer (some ⟨g2, 0, none⟩)) (b1 : BlkAt g1 PrT (prCells x) w) (b2 : BlkAt g2 4 [.bool t] w) :
    (results Try.f16 tmps).run Try.prog w = .ok (.tuple #[prV x, .bool t]) w := by
  have k0 := b1.cell (i := 0) rfl
  have k1 := b1.cell (i := 1) rfl
  have c2 := b2.cell (i := 0) rfl
  have h4' : tmps[4]?.getD undef = .pointer (some ⟨g1, 0, none⟩) := by simpa using h4
  have h5' : tmps[5]?.getD undef = .pointer (some ⟨g2, 0, none⟩) := by simpa using h5
  unfold results prV
  simp [Try.f16, h4', h5', asAddr, go_sem, k0, k1, c2, Result.andThen]
theorem next_leave (x : Pr) (t : Bool) (tmps : Array Value) (w Wf : World) (D : Nat) (L : List Pr) (h4 : tmps.getD 4 undef = .pointer (some ⟨w.heap.size, 0, none⟩)) (h5 : tmps.getD 5 undef = .pointer (some ⟨w.heap.size + 1, 0, none⟩))
    (b1 : BlkAt w.heap.size PrT (prCells x) Wf) (b2 : BlkAt (w.heap.size + 1) 4 [.bool t] Wf) (hD : w.heap.size + 4 ≤ D) (hK : Wf.heap[D]? = some (.deferred (some []))) (hB : Below w.heap.size w Wf) (hr : nextP L = (x, t)) :
    bodyPostM Fence.wide 3 Try.prog Try.f16 (NextSaid w L) .ret { tmps := tmps, defers := [{ target := .collected D, args := #[] }] } Wf := by
  refine ⟨by simp, .inl ⟨_, _, rfl, run_takeDeferred hK, ?_⟩⟩
  exact ⟨.tuple #[prV x, .bool t], next_results x t tmps _ _ _ h4 h5 (putObj_blk b1 _ (by omega)) (putObj_blk b2 _ (by omega)), by rw [hr], hB.trans (belowK_b (w := w) (Nat.le_refl _) Wf D _ _ (by omega) hK rfl rfl)⟩
def NextIx (w : World) (c : Code) (pre : List Pr) (W : World) : Prop := c = .ret ∧ ∃ x, pre = [x] ∧ BlkAt w.heap.size PrT (prCells x) W ∧ BlkAt (w.heap.size + 1) 4 [.bool true] W ∧ Below w.heap.size w W
def NextI (w : World) (pre : List Pr) (W : World) : Prop := pre = [] ∧ BlkAt w.heap.size PrT [.string ⟨#[]⟩, .int .i64 0] W ∧ BlkAt (w.heap.size + 1) 4 [.bool false] W ∧ Below w.heap.size w W ∧ w.heap.size + 4 ≤ W.heap.size
def NextAx (tv : Option Addr) (k : Key) (w : World) (x : Pr) (a' : Act) (W : World) : Prop :=
  ∃ Bx, w.heap.size + 4 ≤ Bx ∧ BlkAt Bx PrT (prCells x) W ∧ a' = { tmps := #[.pointer tv, .string (bs k), undef, undef, .pointer (some ⟨w.heap.size, 0, none⟩), .pointer (some ⟨w.heap.size + 1, 0, none⟩), .pointer (some ⟨Bx, 0, none⟩), .pointer tv, .string (bs k),
      .func (.func 39) #[] #[.pointer (some ⟨w.heap.size + 1 + 1, 0, none⟩), .pointer (some ⟨w.heap.size + 1 + 1 + 1, 0, none⟩)], prV x, undef, undef], defers := [] }
theorem below_own {w W W' : World} {B : Nat} {row : Option Nat} (hB : w.heap.size ≤ B) (h : Below w.heap.size w W) (hg : W.grownBy W' row) (hr : ∀ r, row = some r → B ≤ r ∧ ∃ o : Obj, W.heap[r]? = some o ∧ o.isCells = false) : Below w.heap.size w W' :=
  h.grown hg h.size (fun r e => by have := (hr r e).1; omega)
set_option maxRecDepth 100000 in
set_option maxHeartbeats 2000000 in
theorem next_any (tv : Option Addr) (k : Key) (L : List Pr) (w : World) (HA : AllStops tv k L w) : Calls Try.prog 16 #[.pointer tv, .string (bs k)] w (NextSaid w L) := by
  refine (callsIn_wide (n := 3)).1 ?_
  refine callsIn_of_wp_marks Try.func16 rfl trivial ?_ rfl
  simp only [Try.ntmps16, List.size_toArray, List.length_cons, List.length_nil, Nat.reduceAdd, Nat.reduceSub, Array.replicate_succ, Array.replicate_zero, List.push_toArray, List.append_toArray, List.nil_append, List.cons_append]
  gi_wp2_with (refine ⟨trivial, ?_⟩; gi_at_call 30; refine (callsIn_wide.2 (all_any _ _ _)).mono ?_; rintro e w' ⟨rfl, rfl⟩)
  have b0 := ((BlkAt.alloc_new w [.string ⟨#[]⟩, .int .i64 0] PrT).grew (alloc_below _ (.cells #[.bool false] 4))).grew (alloc_below _ (.cells #[.pointer tv] 23)) |>.grew (alloc_below _ (.cells #[.string (bs k)] 9))
  have b1 := (BlkAt.alloc_new (w.alloc (.cells #[.string ⟨#[]⟩, .int .i64 0] PrT)) [.bool false] 4).grew (alloc_below _ (.cells #[.pointer tv] 23)) |>.grew (alloc_below _ (.cells #[.string (bs k)] 9))
  have b2 := (BlkAt.alloc_new ((w.alloc (.cells #[.string ⟨#[]⟩, .int .i64 0] PrT)).alloc (.cells #[.bool false] 4)) [.pointer tv] 23).grew (alloc_below _ (.cells #[.string (bs k)] 9))
  have b3 := BlkAt.alloc_new (((w.alloc (.cells #[.string ⟨#[]⟩, .int .i64 0] PrT)).alloc (.cells #[.bool false] 4)).alloc (.cells #[.pointer tv] 23)) [.string (bs k)] 9
  have hB4 : Below w.heap.size w ((((w.alloc (.cells #[.string ⟨#[]⟩, .int .i64 0] PrT)).alloc (.cells #[.bool false] 4)).alloc (.cells #[.pointer tv] 23)).alloc (.cells #[.string (bs k)] 9)) := ((((Below.refl _ w).alloc (Nat.le_refl _) _).alloc (by simp) _).alloc (by simp; omega) _).alloc (by simp; omega) _
  have hsz : ((((w.alloc (.cells #[.string ⟨#[]⟩, .int .i64 0] PrT)).alloc (.cells #[.bool false] 4)).alloc (.cells #[.pointer tv] 23)).alloc (.cells #[.string (bs k)] 9)).heap.size = w.heap.size + 4 := by simp
  simp only [World.size_alloc] at b1 b2 b3
  obtain ⟨W0, hW0⟩ : ∃ W0, ((((w.alloc (.cells #[.string ⟨#[]⟩, .int .i64 0] PrT)).alloc (.cells #[.bool false] 4)).alloc (.cells #[.pointer tv] 23)).alloc (.cells #[.string (bs k)] 9)) = W0 := ⟨_, rfl⟩
  rw [hW0] at b0 b1 b2 b3 hsz hB4 ⊢
  clear hW0
  refine wpIn_rangeFunc_ownH rfl (by omega) (gf := 39) (lb := #[.pointer (some ⟨w.heap.size + 1 + 1, 0, none⟩), .pointer (some ⟨w.heap.size + 1 + 1 + 1, 0, none⟩)]) rfl trivial (enters_of Try.func39 (by kernel_rfl) rfl)
    (HA (3 - 1) (w.heap.size + 1 + 1) (w.heap.size + 1 + 1 + 1) W0 hB4 (by omega) (by omega) (b2.cell rfl) (b3.cell rfl)) KpN.trans (KpN.put (by omega)) (Below.refl _ _) (fun _ => rfl)
    (NextI w) (NextIx w)
    (fun s A B row hs hg hr => ⟨hs.1, own_blk hs.2.1 hg hr, own_blk hs.2.2.1 hg hr, below_own (by omega) hs.2.2.2.1 hg hr, Nat.le_trans hs.2.2.2.2 hg.size⟩)
    (fun c s A B row hs hg hr => by
      obtain ⟨h1, x, h2, h3, h4, h5⟩ := hs
      exact ⟨h1, x, h2, own_blk h3 hg hr, own_blk h4 hg hr, below_own (by omega) h5 hg hr⟩)
    ⟨rfl, b0, b1, hB4, by omega⟩ (NextAx tv k w)
    (fun x a' _ A B row hs hg hr => by
      obtain ⟨Bx, h1, h2, h3⟩ := hs
      exact ⟨Bx, h1, own_blk h2 hg hr, h3⟩) ?assign ?body ?done ?stop
  case assign =>
    rintro l pre x W K ⟨rfl, h0, h1, hB, hs4⟩ hK
    have hsW := hB.size
    unfold prV
    gi_wp2
    exact hK _ _ (keepsFrom_below (alloc_below W _)) (KpN.alloc W hsW _) ⟨rfl, h0.grew (alloc_below W _), h1.grew (alloc_below W _), hB.trans ((alloc_below W _).mono hsW), by simp; omega⟩ ⟨W.heap.size, hs4, BlkAt.alloc_new W (prCells x) PrT, rfl⟩
  case body =>
    rintro l pre x a' W hl _ ⟨rfl, h0, h1, hB, hs4⟩ ⟨Bx, hBx, hbx, rfl⟩ hpl
    have x0 := hbx.cell (i := 0) rfl
    have x1 := hbx.cell (i := 1) rfl
    have q0 := h0.cell (i := 0) rfl
    have q1 := h0.cell (i := 1) rfl
    have q2 := h1.cell (i := 0) rfl
    have f0 := h0.frozen 0
    have f1 := h0.frozen 1
    have f2 := h1.frozen 0
    have H := Lib.hid (And.intro h0 (And.intro h1 hB))
    have hl0 := h0.lt
    have hl1 := h1.lt
    clear h0 h1 hB hbx
    unfold prV
    gi_wp2
    refine ⟨((KeepsFrom.of_grownBy (grown_set W _ 0 _) (fun j e => by cases e; omega)).trans (KeepsFrom.of_grownBy (grown_set _ _ 1 _) (fun j e => by cases e; omega))).trans (KeepsFrom.of_grownBy (grown_set _ _ 0 _) (fun j e => by cases e; omega)), rfl, x, rfl, ?_, ?_, ?_⟩
    · exact ((H.out.1.set 0 _).set 1 _).grown (grown_set _ (w.heap.size + 1) 0 _) (by intro e; simp at e)
    · exact ((H.out.2.1.grown (grown_set _ w.heap.size 0 _) (by intro e; simp at e)).grown (grown_set _ w.heap.size 1 _) (by intro e; simp at e)).set 0 _
    · exact ((H.out.2.2.setCell (p := ⟨w.heap.size, 0, none⟩) (Nat.le_refl _) _).setCell (p := ⟨w.heap.size, 1, none⟩) (Nat.le_refl _) _).setCell (p := ⟨w.heap.size + 1, 0, none⟩) (by show w.heap.size ≤ w.heap.size + 1; omega) _
  case done =>
    rintro D ys W hD rfl ⟨rfl, h0, h1, hB, hs4⟩ hK
    have q0 := h0.cell (i := 0) rfl
    have q1 := h0.cell (i := 1) rfl
    have q2 := h1.cell (i := 0) rfl
    have f0 := h0.frozen 0
    have f1 := h0.frozen 1
    have f2 := h1.frozen 0
    have H := Lib.hid (And.intro h0 (And.intro h1 hB))
    have hl0 := h0.lt
    have hl1 := h1.lt
    clear h0 h1 hB
    gi_wp2
    have hKK := ((((KeepsOthers.setCell W ⟨w.heap.size, 0, none⟩ (.string ⟨#[]⟩)).trans (KeepsOthers.setCell _ ⟨w.heap.size, 1, none⟩ (.int .i64 0))).trans (KeepsOthers.setCell _ ⟨w.heap.size + 1, 0, none⟩ (.bool false))).same D _ hK rfl)
    refine next_leave ([], 0) false _ w _ D [] rfl rfl ?_ ?_ (by omega) hKK ?_ rfl
    · exact ((H.out.1.set 0 _).set 1 _).grown (grown_set _ (w.heap.size + 1) 0 _) (by intro e; simp at e)
    · exact ((H.out.2.1.grown (grown_set _ w.heap.size 0 _) (by intro e; simp at e)).grown (grown_set _ w.heap.size 1 _) (by intro e; simp at e)).set 0 _
    · exact ((H.out.2.2.setCell (p := ⟨w.heap.size, 0, none⟩) (Nat.le_refl _) _).setCell (p := ⟨w.heap.size, 1, none⟩) (Nat.le_refl _) _).setCell (p := ⟨w.heap.size + 1, 0, none⟩) (by show w.heap.size ≤ w.heap.size + 1; omega) _
  case stop =>
    rintro D c pre W hD hpre ⟨rfl, x, rfl, h0, h1, hB⟩ hK
    have H := Lib.hid (And.intro h0 (And.intro h1 hB))
    clear h0 h1 hB
    gi_wp2
    refine next_leave x true _ w _ D L rfl rfl H.out.1 H.out.2.1 (by omega) hK H.out.2.2 ?_
    obtain ⟨r, hr⟩ := hpre
    rw [← hr]; rfl
end Go.Proofs.Yteoibolompiohaa
