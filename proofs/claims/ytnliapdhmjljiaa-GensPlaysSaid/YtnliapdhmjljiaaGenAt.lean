/- The walk of At. Conditions: as each theorem says. -/
import Derived.Test.YtnliapdhmjljiaaGenBk
import Derived.Test.YtnliapdhmjljiaaRound
namespace Go.Proofs.Ytnliapdhmjljiaa
open Go.RowKit Go.Shelf
attribute [local go_sem] Oper.semAt_some

abbrev SeenT : TypeId := 39
/-- What At answers: what the last generation with a put there shows. -/
def AtIs (gs : List Gn) (rev : Int) (r : Option Ch) : Prop :=
  (r = none ∧ ∀ g ∈ gs, upTo g.puts rev = 0) ∨ ∃ A g B, gs = A ++ g :: B ∧ upTo g.puts rev ≠ 0 ∧ (∀ x ∈ B, upTo x.puts rev = 0) ∧
    ((r = none ∧ goneG rev g = true) ∨ (r = some ⟨g.puts.getD (upTo g.puts rev - 1) 0, g.cr, g.cut + (upTo g.puts rev : Int), false⟩ ∧ goneG rev g = false))
def seenV (r : Option Ch) : Value := match r with
  | none => .tuple #[.agg #[.int .i64 0, .int .i64 0, .int .i64 0], .bool false]
  | some c => .tuple #[.agg #[.int .i64 c.cr, .int .i64 c.rev, .int .i64 c.ver], .bool true]
def AtSaid (w : World) (gs : List Gn) (rev : Int) (e : Ending) (w' : World) : Prop := ∃ r, AtIs gs rev r ∧ e = .returned (seenV r) ∧ Below w.heap.size w w'
theorem infoSeen : (Try.prog.info? SeenT).map (·.size) = some 3 := by kernel_rfl
theorem seen_one (a b c : Int) : ∀ v ∈ ([.int .i64 a, .int .i64 b, .int .i64 c] : List Value), v.oneCell' = true := by
  intro v hv
  simp only [List.mem_cons, List.not_mem_nil, or_false] at hv
  rcases hv with rfl | rfl | rfl <;> rfl
theorem at_results (a b c : Int) (t : Bool) (tmps : Array Value) (w : World) (g1 g2 : Nat) (h4 : tmps.getD 4 undef = .pointer (some ⟨g1, 0, none⟩)) (h5 : tmps.getD 5 undef = .pointer (some ⟨g2, 0, none⟩)) (b1 : BlkAt g1 SeenT [.int .i64 a, .int .i64 b, .int .i64 c] w) (b2 : BlkAt g2 4 [.bool t] w) :
    (results Try.f16 tmps).run Try.prog w = .ok (.tuple #[.agg #[.int .i64 a, .int .i64 b, .int .i64 c], .bool t]) w := by
  have k0 := b1.cell (i := 0) rfl
  have k1 := b1.cell (i := 1) rfl
  have k2 := b1.cell (i := 2) rfl
  have c2 := b2.cell (i := 0) rfl
  have h4' : tmps[4]?.getD undef = .pointer (some ⟨g1, 0, none⟩) := by simpa using h4
  have h5' : tmps[5]?.getD undef = .pointer (some ⟨g2, 0, none⟩) := by simpa using h5
  unfold results
  simp [Try.f16, h4', h5', asAddr, go_sem, k0, k1, k2, c2, Result.andThen]
theorem putObj_blk {g D : Nat} {T : TypeId} {cs : List Value} {w : World} (h : BlkAt g T cs w) (o : Obj) (hne : g ≠ D) : BlkAt g T cs (w.putObj D o) := by
  unfold BlkAt at *
  rw [World.putObj_heap_other (fun e => hne e)]; exact h
theorem at_leave (a b c : Int) (t : Bool) (tmps : Array Value) (w Wf : World) (D : Nat) (gs : List Gn) (rev : Int) (r : Option Ch) (h4 : tmps.getD 4 undef = .pointer (some ⟨w.heap.size + 1, 0, none⟩)) (h5 : tmps.getD 5 undef = .pointer (some ⟨w.heap.size + 1 + 1, 0, none⟩))
    (b1 : BlkAt (w.heap.size + 1) SeenT [.int .i64 a, .int .i64 b, .int .i64 c] Wf) (b2 : BlkAt (w.heap.size + 1 + 1) 4 [.bool t] Wf) (hD : w.heap.size + 4 ≤ D) (hK : Wf.heap[D]? = some (.deferred (some []))) (hB : Below w.heap.size w Wf)
    (hr : AtIs gs rev r) (hv : seenV r = .tuple #[.agg #[.int .i64 a, .int .i64 b, .int .i64 c], .bool t]) :
    bodyPostM Fence.wide 3 Try.prog Try.f16 (AtSaid w gs rev) .ret { tmps := tmps, defers := [{ target := .collected D, args := #[] }] } Wf := by
  refine ⟨by simp, .inl ⟨_, _, rfl, run_takeDeferred hK, ?_⟩⟩
  refine ⟨.tuple #[.agg #[.int .i64 a, .int .i64 b, .int .i64 c], .bool t], at_results a b c t tmps _ _ _ h4 h5 (putObj_blk b1 _ (by omega)) (putObj_blk b2 _ (by omega)), r, hr, by rw [hv], hB.trans (belowK_b (w := w) (Nat.le_refl _) Wf D _ _ (by omega) hK rfl rfl)⟩
def AtEnd {m : Nat} (G : Fin m → Gn) (rev : Int) (pre : List (Fin m)) (r : Option Ch) : Prop :=
  ∃ ini x, pre = ini ++ [x] ∧ (∀ i ∈ ini, upTo (G i).puts rev = 0) ∧ upTo (G x).puts rev ≠ 0 ∧
    ((r = none ∧ goneG rev (G x) = true) ∨ (r = some ⟨(G x).puts.getD (upTo (G x).puts rev - 1) 0, (G x).cr, (G x).cut + (upTo (G x).puts rev : Int), false⟩ ∧ goneG rev (G x) = false))
def AtIx {m : Nat} (G : Fin m → Gn) (rev : Int) (w W0 : World) (c : Code) (pre : List (Fin m)) (W : World) : Prop :=
  (c = .exit 0 ∧ Below W0.heap.size W0 W ∧ AtEnd G rev pre none) ∨
  (c = .ret ∧ ∃ ch, AtEnd G rev pre (some ch) ∧ BlkAt (w.heap.size + 1) SeenT [.int .i64 ch.cr, .int .i64 ch.rev, .int .i64 ch.ver] W ∧ BlkAt (w.heap.size + 1 + 1) 4 [.bool true] W ∧ Below w.heap.size w W)
theorem blk_kept {B g : Nat} {T : TypeId} {cs : List Value} {W W' : World} {row : Option Nat} (h : BlkAt g T cs W) (hg : W.grownBy W' row) (hr : ∀ r, row = some r → B ≤ r ∧ ∃ o : Obj, W.heap[r]? = some o ∧ o.isCells = false) (hB : g < B) : BlkAt g T cs W' := by
  have hl := BlkAt.lt h
  unfold BlkAt at *
  rw [hg.block g hl (fun e => by have := (hr g e.symm).1; omega)]; exact h
theorem atIx_own {m : Nat} (G : Fin m → Gn) (rev : Int) (w W0 : World) (hs : W0.heap.size = w.heap.size + 4) (c : Code) : OwnFrom W0.heap.size (AtIx G rev w W0 c) := by
  intro pre W W' row h hg hr
  rcases h with ⟨hc, hb, he⟩ | ⟨hc, ch, he, b1, b2, hb⟩
  · exact .inl ⟨hc, ownFrom_below (β := Unit) (Nat.le_refl _) (Nat.le_refl _) () W W' row hb hg hr, he⟩
  · exact .inr ⟨hc, ch, he, blk_kept b1 hg hr (by omega), blk_kept b2 hg hr (by omega), ownFrom_below (β := Unit) (B := W0.heap.size) (Nat.le_refl _) (by omega) () W W' row hb hg hr⟩
def AtFrame (kb : Nat) (rev : Int) (w : World) (sl : Value) (x : Int) (g : Value) (Bx : Nat) : Act :=
  { tmps := #[.pointer (some ⟨kb, 0, none⟩), .int .i64 rev, undef, .pointer (some ⟨w.heap.size, 0, none⟩), .pointer (some ⟨w.heap.size + 1, 0, none⟩), .pointer (some ⟨w.heap.size + 1 + 1, 0, none⟩), undef, .pointer (some ⟨Bx, 0, none⟩), undef,
      .pointer (some ⟨kb, 0, none⟩), .bool false, undef, .pointer (some ⟨kb, 0, none⟩), .pointer (some ⟨kb, 0, none⟩), .pointer (some ⟨kb, 0, none⟩), sl, .func (.func 35) #[] #[.pointer (some ⟨w.heap.size + 1 + 1 + 1, 0, none⟩)], .int .i64 x, g,
      undef, undef, undef, undef, undef, undef, undef, undef, undef, undef, undef, undef, undef, undef, undef, undef, undef, undef, undef, undef, undef, undef, undef, undef, undef, undef, undef, undef], defers := [] }
def AtAx {m : Nat} (G : Fin m → Gn) (V : Fin m → Value) (kb : Nat) (rev : Int) (w W0 : World) (sl : Value) (x : Fin m) (a' : Act) (W : World) : Prop :=
  ∃ Bx, W0.heap.size ≤ Bx ∧ BlkAt Bx GnT [.int .i64 (G x).cr, .int .i64 (G x).cut, V x, .int .i64 (G x).fin] W ∧ a' = AtFrame kb rev w sl (x.1 : Int) (gnV (G x) (V x)) Bx
theorem atAx_own {m : Nat} (G : Fin m → Gn) (V : Fin m → Value) (kb : Nat) (rev : Int) (w W0 : World) (sl : Value) (x : Fin m) (a' : Act) : OwnFrom W0.heap.size (fun (_ : Unit) W => AtAx G V kb rev w W0 sl x a' W) := by
  rintro _ W W' row ⟨Bx, h1, h2, h3⟩ hg hr
  refine ⟨Bx, h1, ?_, h3⟩
  have hl := BlkAt.lt h2
  unfold BlkAt at *
  rw [hg.block Bx hl (fun e => ?_)]
  · exact h2
  · obtain ⟨_, o, ho, hc⟩ := hr Bx e.symm
    rw [h2] at ho
    cases ho
    cases hc
section
variable {F : Nat → Prop} {kb : Nat} {s : Ks} {u : Value} {ps : List Value} {w : World}
set_option maxRecDepth 100000 in
set_option maxHeartbeats 2000000 in
theorem at_any (h : KeyAt F kb s u ps w) (hsz : sizeG s.gs ≤ 100000) (hcut : ∀ g ∈ s.gs, 0 ≤ g.cut ∧ g.cut ≤ 1000000) (rev : Int) : Calls Try.prog 16 #[.pointer (some ⟨kb, 0, none⟩), .int .i64 rev] w (AtSaid w s.gs rev) := by
  have k0 := h.k0
  have hlen := sizeG_len s.gs
  have hps := h.len
  obtain ⟨a, c, hu⟩ := own_slice h.row
  have hkb := h.lt kb h.kF
  have H := Lib.hid h
  rw [hu] at k0 H
  obtain ⟨g, hg⟩ : ∃ g, 0 < s.gs.length → a = some ⟨g, 0, none⟩ ∧ g < w.heap.size := by
    rcases h.form with ⟨_, h2⟩ | ⟨g, cap, h1, _⟩
    · exact ⟨0, fun hh => by rw [h2] at hh; simp at hh⟩
    · exact ⟨g, fun _ => by
        refine ⟨?_, h.lt g (h.uF g (by rw [h1]; rfl)).1⟩
        rw [hu] at h1; simp only [Value.slice.injEq] at h1; exact h1.1⟩
  have HG := Lib.hid hg
  have HSZ := Lib.hid hsz
  have HCUT := Lib.hid hcut
  clear h hg hu hsz hcut
  have hB3 : Below w.heap.size w (((w.alloc (.cells #[.int .i64 rev] 3)).alloc (.cells #[.int .i64 0, .int .i64 0, .int .i64 0] SeenT)).alloc (.cells #[.bool false] 4)) := (((Below.refl _ w).alloc (Nat.le_refl _) _).alloc (by simp) _).alloc (by simp; omega) _
  have k0' := Grew.cell hB3 k0
  refine (callsIn_wide (n := 3)).1 ?_
  refine callsIn_of_wp_marks Try.func16 rfl trivial ?_ rfl
  simp only [Try.ntmps16, List.size_toArray, List.length_cons, List.length_nil, Nat.reduceAdd, Nat.reduceSub, Array.replicate_succ, Array.replicate_zero, List.push_toArray, List.append_toArray, List.nil_append, List.cons_append]
  gi_wp2_with (refine ⟨trivial, ?_⟩; gi_at_call 28; refine (callsIn_wide.2 (Backward_any _ _ _ _)).mono ?_; rintro e w' ⟨rfl, rfl⟩)
  have hB4 : Below w.heap.size w ((((w.alloc (.cells #[.int .i64 rev] 3)).alloc (.cells #[.int .i64 0, .int .i64 0, .int .i64 0] SeenT)).alloc (.cells #[.bool false] 4)).alloc (.cells #[.slice a s.gs.length c] 58)) := hB3.alloc (by simp; omega) _
  have b0 := ((BlkAt.alloc_new w [.int .i64 rev] 3).grew (alloc_below _ (.cells #[.int .i64 0, .int .i64 0, .int .i64 0] SeenT))).grew (alloc_below _ (.cells #[.bool false] 4)) |>.grew (alloc_below _ (.cells #[.slice a s.gs.length c] 58))
  have b1 := (BlkAt.alloc_new (w.alloc (.cells #[.int .i64 rev] 3)) [.int .i64 0, .int .i64 0, .int .i64 0] SeenT).grew (alloc_below _ (.cells #[.bool false] 4)) |>.grew (alloc_below _ (.cells #[.slice a s.gs.length c] 58))
  have b2 := (BlkAt.alloc_new ((w.alloc (.cells #[.int .i64 rev] 3)).alloc (.cells #[.int .i64 0, .int .i64 0, .int .i64 0] SeenT)) [.bool false] 4).grew (alloc_below _ (.cells #[.slice a s.gs.length c] 58))
  have b3 := BlkAt.alloc_new (((w.alloc (.cells #[.int .i64 rev] 3)).alloc (.cells #[.int .i64 0, .int .i64 0, .int .i64 0] SeenT)).alloc (.cells #[.bool false] 4)) [.slice a s.gs.length c] 58
  have hsz0 : ((((w.alloc (.cells #[.int .i64 rev] 3)).alloc (.cells #[.int .i64 0, .int .i64 0, .int .i64 0] SeenT)).alloc (.cells #[.bool false] 4)).alloc (.cells #[.slice a s.gs.length c] 58)).heap.size = w.heap.size + 4 := by simp
  simp only [World.size_alloc] at b1 b2 b3
  obtain ⟨W0, hW0⟩ : ∃ W0, ((((w.alloc (.cells #[.int .i64 rev] 3)).alloc (.cells #[.int .i64 0, .int .i64 0, .int .i64 0] SeenT)).alloc (.cells #[.bool false] 4)).alloc (.cells #[.slice a s.gs.length c] 58)) = W0 := ⟨_, rfl⟩
  rw [hW0] at b0 b1 b2 b3 hsz0 hB4 ⊢
  have hk4 := H.out.grew hB4
  have hlt4 : ∀ b, b < w.heap.size → b < W0.heap.size := fun b hb => by omega
  clear hW0 hB3 k0' 
  obtain ⟨G, hGd⟩ : ∃ G : Fin s.gs.length → Gn, G = fun i => s.gs[i] := ⟨_, rfl⟩
  obtain ⟨V, hVd⟩ : ∃ V : Fin s.gs.length → Value, V = fun i => ps[i.1]'(by rw [hps]; exact i.2) := ⟨_, rfl⟩
  refine wpIn_rangeFunc_ownH rfl (by omega) (gf := 35) (lb := #[.pointer (some ⟨w.heap.size + 1 + 1 + 1, 0, none⟩)]) rfl trivial (enters_of Try.func35 (by kernel_rfl) rfl)
    (back_stops 2 (by omega) (w.heap.size + 1 + 1 + 1) g s.gs.length c a G V (by have := HSZ.out; omega) W0 (fun hh => hlt4 g (HG.out hh).2) (by omega) (fun hh => (HG.out hh).1) (b3.cell rfl) (fun i hi => by
      subst hGd hVd
      rcases Nat.eq_zero_or_pos s.gs.length with h0 | h0
      · omega
      · obtain ⟨ha, _⟩ := HG.out h0
        exact hk4.gcells (by rw [ha]) i hi (by rw [hps]; exact hi)))
    belowK_t (belowK_b (Nat.le_refl _)) (Below.refl _ _) (fun _ => rfl)
    (fun pre W => (∀ i ∈ pre, upTo (G i).puts rev = 0) ∧ Below W0.heap.size W0 W) (AtIx G rev w W0)
    (OwnFrom.and (ownFrom_pure _ _) (ownFrom_below (Nat.le_refl _) (Nat.le_refl _))) (atIx_own G rev w W0 hsz0) ⟨by simp, Below.refl _ _⟩
    (AtAx G V kb rev w W0 (.slice a s.gs.length c)) (fun x a' => atAx_own G V kb rev w W0 _ x a') ?assign ?body ?done ?stop
  all_goals
    have HForm : Hid (∀ i : Fin s.gs.length, ∃ pa pc, V i = .slice pa (G i).puts.length pc) := Lib.hid (fun i => by subst hGd hVd; exact (H.out.puts i.1 i.2 (by rw [hps]; exact i.2)).form)
    have HPut : Hid (∀ i : Fin s.gs.length, PutsAt W0 (V i) (G i).puts ∧ G i ∈ s.gs) := Lib.hid (fun i => by subst hGd hVd; exact ⟨hk4.puts i.1 i.2 (by rw [hps]; exact i.2), List.getElem_mem _⟩)
    have HGd := Lib.hid hGd
    clear hGd hVd hk4
  case assign =>
    rintro l pre x W K ⟨hp, hB⟩ hK
    have hsW := hB.size
    obtain ⟨pa, pc, hv⟩ := HForm.out x
    have HV := Lib.hid hv
    unfold gnV
    rw [hv]
    clear hv
    gi_wp2
    exact hK _ _ (keepsFrom_below (alloc_below W _)) ((alloc_below W _).mono hsW) ⟨hp, hB.trans ((alloc_below W _).mono hsW)⟩ ⟨W.heap.size, hsW, by rw [HV.out]; exact BlkAt.alloc_new W [.int .i64 (G x).cr, .int .i64 (G x).cut, .slice pa (G x).puts.length pc, .int .i64 (G x).fin] GnT, by unfold gnV; rw [HV.out]; rfl⟩
  case body =>
    rintro l pre x a' W hl _ ⟨hp, hB⟩ ⟨Bx, hBx, hbx, rfl⟩ hpl
    obtain ⟨hput0, hgm⟩ := HPut.out x
    have hput := hput0.grew hB
    have hplen := sizeG_puts s.gs _ hgm
    have hsz := HSZ.out
    obtain ⟨hc0, hc1⟩ := HCUT.out _ hgm
    have hul := upTo_le (G x).puts rev
    have hrev : W.cell? ⟨w.heap.size, 0, none⟩ = some (.int .i64 rev) := Grew.cell hB (b0.cell rfl)
    have hbx' := hbx
    obtain ⟨pa, pc, hv⟩ := HForm.out x
    rw [hv] at hput hbx
    have HU := Lib.hid (upTo_any (G x) (.slice pa (G x).puts.length pc) rev W hput (by omega))
    have HGet := Lib.hid (puts_get hput).2
    have x0 := hbx.cell (i := 0) rfl
    have x1 := hbx.cell (i := 1) rfl
    have x2 := hbx.cell (i := 2) rfl
    have x3 := hbx.cell (i := 3) rfl
    have hgone : goneG rev (G x) = (decide (0 < (G x).fin) && decide ((G x).fin ≤ rev)) := rfl
    have HGo := Lib.hid hgone
    have HPost : Hid (∀ e a' W', ownPostG W0.heap.size (Below W0.heap.size) (fun pre W => (∀ i ∈ pre, upTo (G i).puts rev = 0) ∧ Below W0.heap.size W0 W) (AtIx G rev w W0) (pre ++ [x]) W e a' W' → ownPostG W0.heap.size (Below W0.heap.size) (fun pre W => (∀ i ∈ pre, upTo (G i).puts rev = 0) ∧ Below W0.heap.size W0 W) (AtIx G rev w W0) (pre ++ [x]) W e a' W') := Lib.hid (fun _ _ _ h => h)
    have HP := Lib.hid hp
    have HB := Lib.hid hB
    unfold AtFrame gnV
    rw [hv]
    have hsW := hB.size
    clear hv hput hbx hp hB hput0 hgone hgm
    by_cases hn : upTo (G x).puts rev = 0
    · have HN := Lib.hid hn
      rw [hn] at HU
      clear hn
      gi_wp2_with (refine ⟨trivial, ?_⟩; gi_at_call 29; refine (CallsIn.inRound l (callsIn_wide.2 HU.out)).mono ?_; rintro e w1 ⟨rfl, hb1⟩)
      refine ⟨keepsFrom_below hb1, hb1.mono hsW, fun i hi => ?_, HB.out.trans (hb1.mono hsW)⟩
      rcases List.mem_append.1 hi with hi | hi
      · exact HP.out i hi
      · rw [List.mem_singleton.1 hi]; exact HN.out
    · have HN := Lib.hid hn
      have hn0 : ((upTo (G x).puts rev : Int) == 0) = false := beq_eq_false_iff_ne.2 (by omega)
      by_cases hf : 0 < (G x).fin
      · have df : decide (0 < (G x).fin) = true := decide_eq_true hf
        by_cases hr : (G x).fin ≤ rev
        · have dr : decide ((G x).fin ≤ rev) = true := decide_eq_true hr
          have HGg : Hid (goneG rev (G x) = true) := Lib.hid (by rw [HGo.out, df, dr]; rfl)
          clear hf hr hn
          gi_wp2_with (refine ⟨trivial, ?_⟩; gi_at_call 29; refine (CallsIn.inRound l (callsIn_wide.2 HU.out)).mono ?_; rintro e w1 ⟨rfl, hb1⟩; have y3 := Grew.cell hb1 x3; have yr := Grew.cell hb1 hrev)
          exact ⟨keepsFrom_below hb1, .inl ⟨rfl, HB.out.trans (hb1.mono hsW), pre, x, rfl, HP.out, HN.out, .inl ⟨rfl, HGg.out⟩⟩⟩
        · have dr : decide ((G x).fin ≤ rev) = false := decide_eq_false hr
          have HGg : Hid (goneG rev (G x) = false) := Lib.hid (by rw [HGo.out, df, dr]; rfl)
          clear hf hr hn
          gi_wp2_with (refine ⟨trivial, ?_⟩; gi_at_call 29; refine (CallsIn.inRound l (callsIn_wide.2 HU.out)).mono ?_; rintro e w1 ⟨rfl, hb1⟩; have y0 := Grew.cell hb1 x0; have y1 := Grew.cell hb1 x1; have y2 := Grew.cell hb1 x2; have y3 := Grew.cell hb1 x3; have yr := Grew.cell hb1 hrev)
          obtain ⟨k, hk⟩ : ∃ k, upTo (G x).puts rev = k + 1 := ⟨upTo (G x).puts rev - 1, by have := HN.out; omega⟩
          have hkl : k < (G x).puts.length := by omega
          obtain ⟨pb, po, rfl, hpc⟩ := HGet.out k hkl
          have yp := Grew.cell hb1 hpc
          have hgd : (G x).puts.getD (upTo (G x).puts rev - 1) 0 = (G x).puts[k]'hkl := by rw [hk, Nat.add_sub_cancel]; simp [List.getD, show k < (G x).puts.length by omega]
          have HGD := Lib.hid hgd
          have HKK := Lib.hid hk
          have hk6 : k + 1 ≤ 100000 := by omega
          have r1 := ((b1.grew (HB.out.mono (Nat.le_refl _))).grew hb1)
          have r2 := ((b2.grew (HB.out.mono (Nat.le_refl _))).grew hb1)
          have HR1 := Lib.hid r1
          have HR2 := Lib.hid r2
          have q0 := r1.cell (i := 0) rfl
          have q1 := r1.cell (i := 1) rfl
          have q2 := r1.cell (i := 2) rfl
          have q3 := r2.cell (i := 0) rfl
          have f0 := r1.frozen 0
          have f1 := r1.frozen 1
          have f2 := r1.frozen 2
          have f3 := r2.frozen 0
          rw [hk]
          clear hpc hgd hk r1 r2 hul HGet x0 x1 x2 x3 hn0
          generalize (G x).puts[k]'hkl = p at *
          have e1 : ((k + 1 : Nat) : Int) - 1 = (k : Int) := by omega
          have e2 : IntKind.i64.wrap (((k + 1 : Nat) : Int) - 1) = (k : Int) := by rw [e1]; exact IntWalk.i64_in _ (by omega)
          have e4 : (k : Int) + 1 - 1 = (k : Int) := by omega
          have e5 : IntKind.i64.wrap ((k : Int) + 1 - 1) = (k : Int) := by rw [e4]; exact IntWalk.i64_in _ (by omega)
          have e6 : IntKind.i64.wrap (k : Int) = (k : Int) := IntWalk.i64_in _ (by omega)
          have hmix : Try.prog.follows .mixedOrders = true := by kernel_rfl
          have e3 : IntKind.i64.wrap ((G x).cut + ((k + 1 : Nat) : Int)) = (G x).cut + ((k + 1 : Nat) : Int) := IntWalk.i64_in _ (by omega)
          have ek0 : (0 : Int) ≤ (k : Int) := by omega
          have ekl : (k : Int) < ((G x).puts.length : Int) := by omega
          have HB1 := Lib.hid hb1
          clear hb1
          refine wpIn_region_grew_tail 13 (by kernel_rfl) (by kernel_rfl) (by kernel_rfl) ?_
          simp only [List.take_succ_cons, List.take_zero, List.drop_succ_cons, List.drop_zero]
          repeat (first | go_big_quiet_skip | (go_big_quiet_want; first | (refine quiet_load_cell _ _ rfl ⟨Bx, 0, none⟩ rfl _ _ Try.underlying3 rfl (fun W hW => Grew.cell hW y0) ?_; simp only [Act.put, List.setIfInBounds_toArray, List.set_cons_succ, List.set_cons_zero]; go_big_quiet_on) | (refine quiet_load_cell _ _ rfl ⟨Bx, 1, none⟩ rfl _ _ Try.underlying3 rfl (fun W hW => Grew.cell hW y1) ?_; simp only [Act.put, List.setIfInBounds_toArray, List.set_cons_succ, List.set_cons_zero]; go_big_quiet_on) | (refine quiet_load_cell _ _ rfl ⟨Bx, 2, none⟩ rfl _ _ Try.underlying66 rfl (fun W hW => Grew.cell hW y2) ?_; simp only [Act.put, List.setIfInBounds_toArray, List.set_cons_succ, List.set_cons_zero]; go_big_quiet_on) | (refine quiet_load_cell _ _ rfl ⟨pb, po + k, none⟩ rfl _ _ Try.underlying3 rfl (fun W hW => Grew.cell hW yp) ?_; simp only [Act.put, List.setIfInBounds_toArray, List.set_cons_succ, List.set_cons_zero]; go_big_quiet_on) | (go_big_quiet_op; first | go_big_quiet_on | (apply Exists.intro; refine ⟨fun W hW => ?_, ?_⟩; (first | exact rfl); go_big_quiet_on))))
          refine wpQuiet_nil ?_
          intro w3 hw3
          have g3 := HR1.out.grew hw3
          have g4 := HR2.out.grew hw3
          have hs3 : W.heap.size ≤ w3.heap.size := Nat.le_trans HB1.out.size (Below.size hw3)
          clear q0 q1 q2 q3 f0 f1 f2 f3
          have HW3 := Lib.hid hw3
          clear hw3
          go_wp2_with (refine wpList_store_blk (by rfl) SeenT _ _ (by rfl) (w.heap.size + 1) SeenT [.int .i64 0, .int .i64 0, .int .i64 0] [.int .i64 (G x).cr, .int .i64 p, .int .i64 ((G x).cut + (k + 1 : Nat))] (by rfl) (by rfl) g3 rfl infoSeen (seen_one _ _ _) ?_; intro w9 hS9 hgr9; have g5 := g4.grown hgr9 (by intro e; simp at e); have q3 := g5.cell (i := 0) rfl; have f3 := g5.frozen 0)
          have HG9 := Lib.hid hgr9
          have HS9 := Lib.hid hS9
          have HG5 := Lib.hid g5
          clear hgr9 hS9 g5 g3 g4
          unfold onN
          gi_wp2
          have hk9 : W.heap.size ≤ w9.heap.size := Nat.le_trans hs3 HG9.out.size
          have hb3 : Below W.heap.size W w3 := HB1.out.trans ((show Below w1.heap.size w1 w3 from HW3.out).mono HB1.out.size)
          refine ⟨((keepsFrom_below hb3).trans (KeepsFrom.of_grownBy HG9.out (fun j e => by cases e; omega))).trans (KeepsFrom.of_grownBy (grown_set w9 _ 0 _) (fun j e => by cases e; omega)), .inr ⟨rfl, _, ⟨pre, x, rfl, HP.out, HN.out, .inr ⟨rfl, HGg.out⟩⟩, ?_, HG5.out.set 0 (.bool true), ?_⟩⟩
          · have := HS9.out.grown (grown_set w9 (w.heap.size + 1 + 1) 0 (.bool true)) (by intro e; simp at e)
            simp only [HGD.out]
            rw [HKK.out]
            exact this
          · have hbw : Below w.heap.size w w3 := (hB4.trans (HB.out.mono (by omega))).trans (hb3.mono (by omega))
            exact (hbw.grown HG9.out (by omega) (fun k e => by cases e; omega)).setCell (p := ⟨w.heap.size + 1 + 1, 0, none⟩) (by show w.heap.size ≤ w.heap.size + 1 + 1; omega) _
      · have df : decide (0 < (G x).fin) = false := decide_eq_false hf
        have HGg : Hid (goneG rev (G x) = false) := Lib.hid (by rw [HGo.out, df]; rfl)
        clear hf hn
        gi_wp2_with (refine ⟨trivial, ?_⟩; gi_at_call 29; refine (CallsIn.inRound l (callsIn_wide.2 HU.out)).mono ?_; rintro e w1 ⟨rfl, hb1⟩; have y0 := Grew.cell hb1 x0; have y1 := Grew.cell hb1 x1; have y2 := Grew.cell hb1 x2; have y3 := Grew.cell hb1 x3; have yr := Grew.cell hb1 hrev)
        obtain ⟨k, hk⟩ : ∃ k, upTo (G x).puts rev = k + 1 := ⟨upTo (G x).puts rev - 1, by have := HN.out; omega⟩
        have hkl : k < (G x).puts.length := by omega
        obtain ⟨pb, po, rfl, hpc⟩ := HGet.out k hkl
        have yp := Grew.cell hb1 hpc
        have hgd : (G x).puts.getD (upTo (G x).puts rev - 1) 0 = (G x).puts[k]'hkl := by rw [hk, Nat.add_sub_cancel]; simp [List.getD, show k < (G x).puts.length by omega]
        have HGD := Lib.hid hgd
        have HKK := Lib.hid hk
        have hk6 : k + 1 ≤ 100000 := by omega
        have r1 := ((b1.grew (HB.out.mono (Nat.le_refl _))).grew hb1)
        have r2 := ((b2.grew (HB.out.mono (Nat.le_refl _))).grew hb1)
        have HR1 := Lib.hid r1
        have HR2 := Lib.hid r2
        have q0 := r1.cell (i := 0) rfl
        have q1 := r1.cell (i := 1) rfl
        have q2 := r1.cell (i := 2) rfl
        have q3 := r2.cell (i := 0) rfl
        have f0 := r1.frozen 0
        have f1 := r1.frozen 1
        have f2 := r1.frozen 2
        have f3 := r2.frozen 0
        rw [hk]
        clear hpc hgd hk r1 r2 hul HGet x0 x1 x2 x3 hn0
        generalize (G x).puts[k]'hkl = p at *
        have e1 : ((k + 1 : Nat) : Int) - 1 = (k : Int) := by omega
        have e2 : IntKind.i64.wrap (((k + 1 : Nat) : Int) - 1) = (k : Int) := by rw [e1]; exact IntWalk.i64_in _ (by omega)
        have e4 : (k : Int) + 1 - 1 = (k : Int) := by omega
        have e5 : IntKind.i64.wrap ((k : Int) + 1 - 1) = (k : Int) := by rw [e4]; exact IntWalk.i64_in _ (by omega)
        have e6 : IntKind.i64.wrap (k : Int) = (k : Int) := IntWalk.i64_in _ (by omega)
        have hmix : Try.prog.follows .mixedOrders = true := by kernel_rfl
        have e3 : IntKind.i64.wrap ((G x).cut + ((k + 1 : Nat) : Int)) = (G x).cut + ((k + 1 : Nat) : Int) := IntWalk.i64_in _ (by omega)
        have ek0 : (0 : Int) ≤ (k : Int) := by omega
        have ekl : (k : Int) < ((G x).puts.length : Int) := by omega
        have HB1 := Lib.hid hb1
        clear hb1
        refine wpIn_region_grew_tail 13 (by kernel_rfl) (by kernel_rfl) (by kernel_rfl) ?_
        simp only [List.take_succ_cons, List.take_zero, List.drop_succ_cons, List.drop_zero]
        repeat (first | go_big_quiet_skip | (go_big_quiet_want; first | (refine quiet_load_cell _ _ rfl ⟨Bx, 0, none⟩ rfl _ _ Try.underlying3 rfl (fun W hW => Grew.cell hW y0) ?_; simp only [Act.put, List.setIfInBounds_toArray, List.set_cons_succ, List.set_cons_zero]; go_big_quiet_on) | (refine quiet_load_cell _ _ rfl ⟨Bx, 1, none⟩ rfl _ _ Try.underlying3 rfl (fun W hW => Grew.cell hW y1) ?_; simp only [Act.put, List.setIfInBounds_toArray, List.set_cons_succ, List.set_cons_zero]; go_big_quiet_on) | (refine quiet_load_cell _ _ rfl ⟨Bx, 2, none⟩ rfl _ _ Try.underlying66 rfl (fun W hW => Grew.cell hW y2) ?_; simp only [Act.put, List.setIfInBounds_toArray, List.set_cons_succ, List.set_cons_zero]; go_big_quiet_on) | (refine quiet_load_cell _ _ rfl ⟨pb, po + k, none⟩ rfl _ _ Try.underlying3 rfl (fun W hW => Grew.cell hW yp) ?_; simp only [Act.put, List.setIfInBounds_toArray, List.set_cons_succ, List.set_cons_zero]; go_big_quiet_on) | (go_big_quiet_op; first | go_big_quiet_on | (apply Exists.intro; refine ⟨fun W hW => ?_, ?_⟩; (first | exact rfl); go_big_quiet_on))))
        refine wpQuiet_nil ?_
        intro w3 hw3
        have g3 := HR1.out.grew hw3
        have g4 := HR2.out.grew hw3
        have hs3 : W.heap.size ≤ w3.heap.size := Nat.le_trans HB1.out.size (Below.size hw3)
        clear q0 q1 q2 q3 f0 f1 f2 f3
        have HW3 := Lib.hid hw3
        clear hw3
        go_wp2_with (refine wpList_store_blk (by rfl) SeenT _ _ (by rfl) (w.heap.size + 1) SeenT [.int .i64 0, .int .i64 0, .int .i64 0] [.int .i64 (G x).cr, .int .i64 p, .int .i64 ((G x).cut + (k + 1 : Nat))] (by rfl) (by rfl) g3 rfl infoSeen (seen_one _ _ _) ?_; intro w9 hS9 hgr9; have g5 := g4.grown hgr9 (by intro e; simp at e); have q3 := g5.cell (i := 0) rfl; have f3 := g5.frozen 0)
        have HG9 := Lib.hid hgr9
        have HS9 := Lib.hid hS9
        have HG5 := Lib.hid g5
        clear hgr9 hS9 g5 g3 g4
        unfold onN
        gi_wp2
        have hk9 : W.heap.size ≤ w9.heap.size := Nat.le_trans hs3 HG9.out.size
        have hb3 : Below W.heap.size W w3 := HB1.out.trans ((show Below w1.heap.size w1 w3 from HW3.out).mono HB1.out.size)
        refine ⟨((keepsFrom_below hb3).trans (KeepsFrom.of_grownBy HG9.out (fun j e => by cases e; omega))).trans (KeepsFrom.of_grownBy (grown_set w9 _ 0 _) (fun j e => by cases e; omega)), .inr ⟨rfl, _, ⟨pre, x, rfl, HP.out, HN.out, .inr ⟨rfl, HGg.out⟩⟩, ?_, HG5.out.set 0 (.bool true), ?_⟩⟩
        · have := HS9.out.grown (grown_set w9 (w.heap.size + 1 + 1) 0 (.bool true)) (by intro e; simp at e)
          simp only [HGD.out]
          rw [HKK.out]
          exact this
        · have hbw : Below w.heap.size w w3 := (hB4.trans (HB.out.mono (by omega))).trans (hb3.mono (by omega))
          exact (hbw.grown HG9.out (by omega) (fun k e => by cases e; omega)).setCell (p := ⟨w.heap.size + 1 + 1, 0, none⟩) (by show w.heap.size ≤ w.heap.size + 1 + 1; omega) _
  case done =>
    rintro D ys W hD rfl ⟨hz, hB⟩ hK
    have q := b1.grew hB
    have q' := b2.grew hB
    have HB := Lib.hid hB
    have HZ := Lib.hid hz
    have HR1 := Lib.hid q
    have HR2 := Lib.hid q'
    have hsB := hB.size
    have c0 := q.cell (i := 0) rfl
    have c1 := q.cell (i := 1) rfl
    have c2 := q.cell (i := 2) rfl
    have c3 := q'.cell (i := 0) rfl
    have f0 := q.frozen 0
    have f1 := q.frozen 1
    have f2 := q.frozen 2
    have f3 := q'.frozen 0
    clear hB hz q' q
    gi_wp2
    have hk1 := (((HR1.out.set 0 (.int .i64 0)).set 1 (.int .i64 0)).set 2 (.int .i64 0)).grown (grown_set _ (w.heap.size + 1 + 1) 0 (.bool false)) (by intro e; simp at e)
    have hk2 := (((HR2.out.grown (grown_set _ (w.heap.size + 1) 0 (.int .i64 0)) (by intro e; simp at e)).grown (grown_set _ (w.heap.size + 1) 1 (.int .i64 0)) (by intro e; simp at e)).grown (grown_set _ (w.heap.size + 1) 2 (.int .i64 0)) (by intro e; simp at e)).set 0 (.bool false)
    have hKK := (((((KeepsOthers.setCell W ⟨w.heap.size + 1, 0, none⟩ (.int .i64 0)).trans (KeepsOthers.setCell _ ⟨w.heap.size + 1, 1, none⟩ (.int .i64 0))).trans (KeepsOthers.setCell _ ⟨w.heap.size + 1, 2, none⟩ (.int .i64 0))).trans (KeepsOthers.setCell _ ⟨w.heap.size + 1 + 1, 0, none⟩ (.bool false))).same D _ hK rfl)
    have hbw : Below w.heap.size w W := hB4.trans (HB.out.mono (by omega))
    have hbe := (((hbw.setCell (p := ⟨w.heap.size + 1, 0, none⟩) (by show w.heap.size ≤ w.heap.size + 1; omega) (.int .i64 0)).setCell (p := ⟨w.heap.size + 1, 1, none⟩) (by show w.heap.size ≤ w.heap.size + 1; omega) (.int .i64 0)).setCell (p := ⟨w.heap.size + 1, 2, none⟩) (by show w.heap.size ≤ w.heap.size + 1; omega) (.int .i64 0)).setCell (p := ⟨w.heap.size + 1 + 1, 0, none⟩) (by show w.heap.size ≤ w.heap.size + 1 + 1; omega) (.bool false)
    refine at_leave 0 0 0 false _ w _ D s.gs rev none rfl rfl hk1 hk2 (by omega) hKK hbe (.inl ⟨rfl, fun gn hgn => ?_⟩) rfl
    obtain ⟨i, hi, rfl⟩ := List.getElem_of_mem hgn
    have := HZ.out ⟨i, hi⟩ ((backL_mem _ _ (Nat.le_refl _) _).2 (by simp))
    rw [HGd.out] at this
    exact this
  case stop =>
    rintro D c' pre W hD ⟨k, hk, rfl⟩ hx hK
    have HEnd : Hid (∀ r, AtEnd G rev (backL s.gs.length k) r → AtIs s.gs rev r) := by
      apply Lib.hid
      rintro r ⟨ini, x, e, hi, hn, hr⟩
      obtain ⟨j, rfl⟩ : ∃ j, k = j + 1 := by
        cases k with
        | zero => simp [backL] at e
        | succ j => exact ⟨j, rfl⟩
      rw [backL_succ _ _ (by omega)] at e
      obtain ⟨rfl, e2⟩ := List.append_inj' e rfl
      obtain rfl : x = _ := by simpa using e2.symm
      have hjl : s.gs.length - 1 - j < s.gs.length := by omega
      refine .inr ⟨s.gs.take (s.gs.length - 1 - j), s.gs[s.gs.length - 1 - j], s.gs.drop (s.gs.length - 1 - j + 1), by simp, ?_, fun y hy => ?_, ?_⟩
      · rw [HGd.out] at hn; exact hn
      · obtain ⟨i, hi2, rfl⟩ := List.getElem_of_mem hy
        have hil : s.gs.length - 1 - j + 1 + i < s.gs.length := by rw [List.length_drop] at hi2; omega
        have := hi ⟨s.gs.length - 1 - j + 1 + i, hil⟩ ((backL_mem _ _ (by omega) _).2 (by simp only; omega))
        rw [HGd.out] at this
        rw [List.getElem_drop]
        exact this
      · rw [HGd.out] at hr; exact hr
    rcases hx with ⟨rfl, hB, he⟩ | ⟨rfl, ch, he, r1, r2, hB⟩
    · have q := b1.grew hB
      have q' := b2.grew hB
      have HB := Lib.hid hB
      have HR1 := Lib.hid q
      have HR2 := Lib.hid q'
      have hsB := hB.size
      have c0 := q.cell (i := 0) rfl
      have c1 := q.cell (i := 1) rfl
      have c2 := q.cell (i := 2) rfl
      have c3 := q'.cell (i := 0) rfl
      have f0 := q.frozen 0
      have f1 := q.frozen 1
      have f2 := q.frozen 2
      have f3 := q'.frozen 0
      have HE := Lib.hid (HEnd.out _ he)
      clear hB q' q he
      gi_wp2
      have hk1 := (((HR1.out.set 0 (.int .i64 0)).set 1 (.int .i64 0)).set 2 (.int .i64 0)).grown (grown_set _ (w.heap.size + 1 + 1) 0 (.bool false)) (by intro e; simp at e)
      have hk2 := (((HR2.out.grown (grown_set _ (w.heap.size + 1) 0 (.int .i64 0)) (by intro e; simp at e)).grown (grown_set _ (w.heap.size + 1) 1 (.int .i64 0)) (by intro e; simp at e)).grown (grown_set _ (w.heap.size + 1) 2 (.int .i64 0)) (by intro e; simp at e)).set 0 (.bool false)
      have hKK := (((((KeepsOthers.setCell W ⟨w.heap.size + 1, 0, none⟩ (.int .i64 0)).trans (KeepsOthers.setCell _ ⟨w.heap.size + 1, 1, none⟩ (.int .i64 0))).trans (KeepsOthers.setCell _ ⟨w.heap.size + 1, 2, none⟩ (.int .i64 0))).trans (KeepsOthers.setCell _ ⟨w.heap.size + 1 + 1, 0, none⟩ (.bool false))).same D _ hK rfl)
      have hbw : Below w.heap.size w W := hB4.trans (HB.out.mono (by omega))
      have hbe := (((hbw.setCell (p := ⟨w.heap.size + 1, 0, none⟩) (by show w.heap.size ≤ w.heap.size + 1; omega) (.int .i64 0)).setCell (p := ⟨w.heap.size + 1, 1, none⟩) (by show w.heap.size ≤ w.heap.size + 1; omega) (.int .i64 0)).setCell (p := ⟨w.heap.size + 1, 2, none⟩) (by show w.heap.size ≤ w.heap.size + 1; omega) (.int .i64 0)).setCell (p := ⟨w.heap.size + 1 + 1, 0, none⟩) (by show w.heap.size ≤ w.heap.size + 1 + 1; omega) (.bool false)
      exact at_leave 0 0 0 false _ w _ D s.gs rev none rfl rfl hk1 hk2 (by omega) hKK hbe HE.out rfl
    · have HE := Lib.hid (HEnd.out _ he)
      have HR1 := Lib.hid r1
      have HR2 := Lib.hid r2
      have HB := Lib.hid hB
      clear hB r1 r2 he
      gi_wp2
      exact at_leave _ _ _ true _ w _ D s.gs rev (some ch) rfl rfl HR1.out HR2.out (by omega) hK HB.out HE.out rfl
end
end Go.Proofs.Ytnliapdhmjljiaa
