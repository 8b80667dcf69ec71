/- The walk of settle, of a node that is alone. Conditions: as each theorem says. -/
import Derived.Test.YtkidhbflojlmoaaGreatZabN
namespace Go.Proofs.YtkidhbflojlmoaaGreat
open Go.RowKit Go.Shelf
attribute [local go_sem] Oper.semAt_some

def SetFrame (g : Nat) (w : World) (sl : Value) (i : Int) (x : Ent) (Bx : Nat) : Act :=
  { tmps := #[.pointer (some ⟨g, 0, none⟩), .pointer (some ⟨w.heap.size, 0, none⟩), undef, .pointer (some ⟨Bx, 0, none⟩), .pointer (some ⟨g, 0, none⟩), .pointer (some ⟨g, 0, none⟩), .pointer (some ⟨g, 0, none⟩), .pointer (some ⟨g, 5, none⟩), sl, .func (.func 80) #[] #[.pointer (some ⟨w.heap.size + 1, 0, none⟩)], .int .i64 i, entV x,
      undef, undef, undef, undef, undef, undef, undef, undef, undef, undef, undef, undef, undef, undef, undef, undef, undef, undef, undef, undef, undef, undef, undef, undef, undef, undef, undef, undef, undef, undef, undef, undef, undef], defers := [] }
def SetAx {m : Nat} (G : Fin m → Ent) (g : Nat) (w W0 : World) (sl : Value) (x : Fin m) (a' : Act) (W : World) : Prop :=
  ∃ Bx, W0.heap.size ≤ Bx ∧ BlkAt Bx EntT (entCells (G x)) W ∧ a' = SetFrame g w sl (x.1 : Int) (G x) Bx
theorem setAx_own {m : Nat} (G : Fin m → Ent) (g : Nat) (w W0 : World) (sl : Value) (x : Fin m) (a' : Act) : OwnFrom W0.heap.size (fun (_ : Unit) W => SetAx G g w W0 sl x a' W) := by
  rintro _ W W' row ⟨Bx, h1, h2, h3⟩ hg hr
  refine ⟨Bx, h1, ?_, h3⟩
  have hl := BlkAt.lt h2
  unfold BlkAt at *
  rw [hg.block Bx hl (fun e => ?_)]
  · exact h2
  · obtain ⟨_, o, ho, hc⟩ := hr Bx e.symm
    rw [h2] at ho
    cases ho
    cases hc
def SetIx {m : Nat} (G : Fin m → Ent) (g : Nat) (n : Nd) (w : World) (c : Code) (pre : List (Fin m)) (W : World) : Prop :=
  c = .ret ∧ ∃ y, pre = [y] ∧ ((G y).e = n.acc → lessZ n.commit (G y).z = true → NodeAt g { n with commit := (G y).z } W) ∧ w.grownBy W (some g)
theorem grown_steps {w w1 w2 : World} {row row1 : Option Nat} (h : w.grownBy w1 row) (h2 : w1.grownBy w2 row1) (hr : row1 = row ∨ ∀ b, row1 = some b → w.heap.size ≤ b) : w.grownBy w2 row :=
  ⟨h2.os.trans h.os, h2.tape.trans h.tape, h2.output.trans h.output, Nat.le_trans h.size h2.size, fun k hk hne => by
    rw [h2.block k (Nat.lt_of_lt_of_le hk h.size) (fun e => by
      rcases hr with hr | hr
      · exact hne (by rw [e, hr])
      · have := hr k e.symm; omega), h.block k hk hne]⟩
theorem setIx_own {m : Nat} (G : Fin m → Ent) (g : Nat) (n : Nd) (w W0 : World) (hs : w.heap.size ≤ W0.heap.size) (hg0 : g < w.heap.size) (c : Code) : OwnFrom W0.heap.size (SetIx G g n w c) := by
  rintro pre W W' row ⟨h1, y, h2, h3, h4⟩ hg hr
  refine ⟨h1, y, h2, fun e1 e2 => BlkAt.grown (h3 e1 e2) hg (fun e => ?_), grown_steps h4 hg (.inr fun b e => ?_)⟩
  · have := (hr g e.symm).1; omega
  · have := (hr b e).1; omega
theorem NodeAt.commited {g : Nat} {n : Nd} {w : World} (h : NodeAt g n w) (z : Int × Int) :
    NodeAt g { n with commit := z } ((w.setCell ⟨g, 12, none⟩ (.int .i64 z.1)).setCell ⟨g, 13, none⟩ (.int .i64 z.2)) :=
  BlkAt.set (BlkAt.set h 12 (.int .i64 z.1)) 13 (.int .i64 z.2)
theorem has_one (n : Nd) (hl : n.lone) (z : Int × Int) : decide (n.nodes / 2 < countP n.nodes fun i => hasP n.me z i (n.peers.getD i peer0)) = true := by
  rw [hl.nodes, hl.me, show (1 : Nat) = 0 + 1 from rfl, countP_succ, countP_zero]
  simp [hasP]
theorem tests_settle {g b c : Nat} {n : Nd} {x : Ent} {w : World} (h : NodeAt g n w) (hf : n.fit) (hb : w.cell? ⟨b, 0, none⟩ = some (ptrV g)) (hc : EntCells w c 0 x) :
    Tests 57 #[.pointer (some ⟨b, 0, none⟩), .pointer (some ⟨c, 0, none⟩)] g n.nodes (fun i => hasP n.me x.z i (n.peers.getD i peer0)) w := by
  refine ⟨enters_of Tryz.func57 (by kernel_rfl) rfl, fun i hi W hB => ?_⟩
  have hl : i < n.peers.length := by rw [hf.peers]; have := hf.n7; omega
  have hx : n.peers.getD i peer0 = n.peers[i] := by simp [List.getD, hl]
  show Calls Tryz.prog _ _ W fun e w'' => e = .returned (.bool (hasP n.me x.z i (n.peers.getD i peer0))) ∧ _
  rw [hx]
  exact settle1_any i g b c n hl x W (BlkAt.grew h hB) (Grew.cell hB hb) (EntCells.grew hc hB)
set_option maxRecDepth 100000 in
set_option maxHeartbeats 4000000 in
theorem settle_one (g : Nat) (n : Nd) (hl : n.lone) (L0 : List Ent) (x : Ent) (w : World) (h : NodeAt g n w) (hL : LogAt n (L0 ++ [x]) w) (hx : x.e = n.acc) (hc : lessZ n.commit x.z = true) :
    Calls Tryz.prog 32 #[ptrV g] w fun e w' => e = .returned (.tuple #[]) ∧ NodeAt g { n with commit := x.z } w' ∧ w.grownBy w' (some g) := by
  obtain ⟨a, c, hv, hE, hln, hlc⟩ := hL
  have c5 : w.cell? ⟨g, 5, none⟩ = some (.slice a (L0 ++ [x]).length c) := by rw [← hv]; exact h.cell (by rfl)
  obtain ⟨bb, off, hab, hcells⟩ : ∃ bb off, a = some ⟨bb, off, none⟩ ∧ ∀ i (hi : i < (L0 ++ [x]).length), EntCells w bb (off + i * 3) (L0 ++ [x])[i] := by
    rw [hv] at hE
    obtain ⟨bb, off, e, _⟩ := ents_get hE 0 (by simp)
    refine ⟨bb, off, e, fun i hi => ?_⟩
    obtain ⟨bb', off', e', hc'⟩ := ents_get hE i hi
    rw [e] at e'
    simp only [Option.some.injEq, Addr.mk.injEq] at e'
    obtain ⟨rfl, rfl, _⟩ := e'
    exact hc'
  have hbb : bb < w.heap.size := block_lt_of_cell (hcells 0 (by simp)).1
  have hlt : g < w.heap.size := BlkAt.lt h
  obtain ⟨m, hm⟩ : ∃ m, m = (L0 ++ [x]).length := ⟨_, rfl⟩
  have hmp : 0 < m := by rw [hm]; simp
  obtain ⟨G, hG⟩ : ∃ G : Fin m → Ent, G = fun i => (L0 ++ [x])[i.1]'(by rw [← hm]; exact i.2) := ⟨_, rfl⟩
  have hcells : ∀ i (hi : i < m), EntCells w bb (off + i * 3) (G ⟨i, hi⟩) := fun i hi => by subst hG; exact hcells i (by omega)
  have hlast : ∀ i : Fin m, [i] = backL m 1 → G i = x := by
    intro i hi
    have h1 := backL_succ m 0 hmp
    rw [h1] at hi
    simp only [backL, List.range_zero, List.filterMap_nil, List.nil_append, List.cons.injEq, and_true] at hi
    subst hG
    simp only [hi]
    have : m - 1 - 0 = L0.length := by rw [hm]; simp
    simp [this]
  rw [← hm] at c5 hln hlc
  subst hab
  have H := Lib.hid h
  clear hE hv h hm hG
  unfold ptrV
  refine (callsIn_wide (n := 3)).1 ?_
  refine callsIn_of_wp_marks Tryz.func32 rfl trivial ?_ rfl
  simp only [Tryz.ntmps32, List.size_toArray, List.length_cons, List.length_nil, Nat.reduceAdd, Nat.reduceSub, Array.replicate_succ, Array.replicate_zero, List.push_toArray, List.append_toArray, List.nil_append, List.cons_append]
  gi_wp2_with (refine ⟨trivial, ?_⟩; gi_at_call 55; refine (callsIn_wide.2 (Backward_any _ _ _ _)).mono ?_; rintro e w' ⟨rfl, rfl⟩)
  have hB2 : Below w.heap.size w ((w.alloc (.cells #[.pointer (some ⟨g, 0, none⟩)] 34)).alloc (.cells #[.slice (some ⟨bb, off, none⟩) m c] EnsT)) := two_allocs w _ _
  have b0 := (BlkAt.alloc_new w [.pointer (some ⟨g, 0, none⟩)] 34).grew (alloc_below _ (.cells #[.slice (some ⟨bb, off, none⟩) m c] EnsT))
  have b1 := BlkAt.alloc_new (w.alloc (.cells #[.pointer (some ⟨g, 0, none⟩)] 34)) [.slice (some ⟨bb, off, none⟩) m c] EnsT
  have hsz0 : ((w.alloc (.cells #[.pointer (some ⟨g, 0, none⟩)] 34)).alloc (.cells #[.slice (some ⟨bb, off, none⟩) m c] EnsT)).heap.size = w.heap.size + 2 := by simp
  simp only [World.size_alloc] at b0 b1
  obtain ⟨W0, hW0⟩ : ∃ W0, (w.alloc (.cells #[.pointer (some ⟨g, 0, none⟩)] 34)).alloc (.cells #[.slice (some ⟨bb, off, none⟩) m c] EnsT) = W0 := ⟨_, rfl⟩
  rw [hW0] at b0 b1 hsz0 hB2 ⊢
  clear hW0
  have HB2 := Lib.hid hB2
  refine wpIn_rangeFunc_ownH rfl (by omega) (gf := 80) (lb := #[.pointer (some ⟨w.heap.size + 1, 0, none⟩)]) rfl trivial (enters_of Tryz.func80 (by kernel_rfl) rfl)
    (back_stops 2 (by omega) (w.heap.size + 1) bb off m c (some ⟨bb, off, none⟩) G hln W0 (fun _ => by omega) (by omega) (fun _ => rfl) (b1.cell rfl) (fun i hi => EntCells.grew (hcells i hi) hB2))
    belowK_t (belowK_b (Nat.le_refl _)) (Below.refl _ _) (fun _ => rfl)
    (fun pre W => pre = [] ∧ Below W0.heap.size W0 W) (SetIx G g n w)
    (OwnFrom.and (ownFrom_pure _ _) (ownFrom_below (Nat.le_refl _) (Nat.le_refl _))) (setIx_own G g n w W0 (by omega) hlt) ⟨rfl, Below.refl _ _⟩
    (SetAx G g w W0 (.slice (some ⟨bb, off, none⟩) m c)) (fun x a' => setAx_own G g w W0 _ x a') ?assign ?body ?done ?stop
  case assign =>
    rintro l pre y W K ⟨hp, hB⟩ hK
    have hsW := hB.size
    unfold entV
    gi_wp2
    exact hK _ _ (keepsFrom_below (alloc_below W _)) ((alloc_below W _).mono hsW) ⟨hp, hB.trans ((alloc_below W _).mono hsW)⟩ ⟨W.heap.size, hsW, BlkAt.alloc_new W (entCells (G y)) EntT, rfl⟩
  case body =>
    rintro l pre y a' W hl' _ ⟨rfl, hB⟩ ⟨Bx, hBx, hbx, rfl⟩ hpl
    have hsW := hB.size
    have hbw : Below w.heap.size w W := HB2.out.trans (hB.mono (by omega))
    have hN : NodeAt g n W := BlkAt.grew H.out hbw
    have t1 : W.cell? ⟨w.heap.size, 0, none⟩ = some (.pointer (some ⟨g, 0, none⟩)) := Grew.cell hB (b0.cell rfl)
    have x0 := hbx.cell (i := 0) (v := .int .i64 (G y).e) rfl
    have x1 := hbx.cell (i := 1) (v := .int .i64 (G y).c) rfl
    have x2 := hbx.cell (i := 2) (v := .string (bs (G y).b)) rfl
    have n0 : W.cell? ⟨g, 0, none⟩ = some (.int .i64 n.acc) := BlkAt.cell hN (by rfl)
    have n12 : W.cell? ⟨g, 12, none⟩ = some (.int .i64 n.commit.1) := BlkAt.cell hN (by rfl)
    have n13 : W.cell? ⟨g, 13, none⟩ = some (.int .i64 n.commit.2) := BlkAt.cell hN (by rfl)
    have HLs : ∀ W, Calls Tryz.prog 26 #[.agg #[.int .i64 n.commit.1, .int .i64 n.commit.2], .agg #[.int .i64 (G y).e, .int .i64 (G y).c]] W fun e w' => e = .returned (.bool (lessZ n.commit (G y).z)) ∧ Below W.heap.size W w' := fun W => less_any n.commit (G y).z W
    have HLs := Lib.hid HLs
    have HN := Lib.hid hN
    have HBW := Lib.hid hbw
    have HX := Lib.hid (show EntCells W Bx 0 (G y) from ⟨x0, x1, x2⟩)
    unfold SetFrame entV
    clear hbx hB hbw hN
    by_cases he : (G y).e = n.acc
    · by_cases hle : lessZ n.commit (G y).z = true
      · have eb : ((G y).e != n.acc) = false := by rw [he]; simp
        rw [hle] at HLs
        have HE := Lib.hid (And.intro he hle)
        clear he hle
        gi_wp2_with (fail)
        have hex := Grew.all W
        refine wpIn_region_grew (by kernel_rfl) (by kernel_rfl) (by kernel_rfl) ?_
        repeat (first | go_big_quiet_skip | (go_big_quiet_want; first | (refine quiet_load_cell _ _ rfl ⟨Bx, 0, none⟩ rfl _ _ Tryz.underlying3 rfl (fun W hW => Grew.cell hW x0) ?_; simp only [Act.put, List.setIfInBounds_toArray, List.set_cons_succ, List.set_cons_zero]; go_big_quiet_on) | (refine quiet_load_cell _ _ rfl ⟨g, 0, none⟩ rfl _ _ Tryz.underlying3 rfl (fun W hW => Grew.cell hW n0) ?_; simp only [Act.put, List.setIfInBounds_toArray, List.set_cons_succ, List.set_cons_zero]; go_big_quiet_on) | (refine quiet_load_cell _ _ rfl ⟨w.heap.size, 0, none⟩ rfl _ _ Tryz.underlying34 rfl (fun W hW => Grew.cell hW t1) ?_; simp only [Act.put, List.setIfInBounds_toArray, List.set_cons_succ, List.set_cons_zero]; go_big_quiet_on) | (refine quiet_load_mid 41 _ rfl Bx 0 rfl [.int .i64 (G y).e, .int .i64 (G y).c] _ (fun W hW => range2 (Grew.cell hW x0) (Grew.cell hW x1)) Tryz.underlying41 rfl (by kernel_rfl) ?_; simp only [Act.put, List.setIfInBounds_toArray, List.set_cons_succ, List.set_cons_zero]; go_big_quiet_on) | (refine quiet_load_mid 41 _ rfl g 12 rfl [.int .i64 n.commit.1, .int .i64 n.commit.2] _ (fun W hW => range2 (Grew.cell hW n12) (Grew.cell hW n13)) Tryz.underlying41 rfl (by kernel_rfl) ?_; simp only [Act.put, List.setIfInBounds_toArray, List.set_cons_succ, List.set_cons_zero]; go_big_quiet_on) | (go_big_quiet_op; first | go_big_quiet_on | (apply Exists.intro; refine ⟨fun W hW => ?_, ?_⟩; (first | exact rfl | (go_at_call 26; with_reducible exact Calls.grew hW (HLs.out _))); go_big_quiet_on))))
        refine wpQuiet_nil ?_
        intro w3 hw3
        clear hex
        have hb3 : Below W.heap.size W w3 := hw3
        have HN3 := Lib.hid (show NodeAt g n w3 from BlkAt.grew HN.out hb3)
        have HHf := half_any g n hl.fit 57 _ _ w3 HN3.out (tests_settle HN3.out hl.fit (Grew.cell hb3 t1) (EntCells.grew HX.out hb3))
        rw [has_one n hl] at HHf
        unfold ptrV at HHf
        have HHf := Lib.hid HHf
        have t1 := Grew.cell hb3 t1
        have x0 := Grew.cell hb3 x0
        have x1 := Grew.cell hb3 x1
        have HB3 := Lib.hid hb3
        clear hw3 hb3 n0 n12 n13 x2
        gi_wp2_with (first
          | (refine ⟨trivial, ?_⟩; gi_at_call 56; refine (CallsIn.inRound l (callsIn_wide.2 HHf.out)).mono ?_; rintro e w4 ⟨rfl, hb4⟩; have t1 := Grew.cell hb4 t1; have x0 := Grew.cell hb4 x0; have x1 := Grew.cell hb4 x1; have n12 : w4.cell? ⟨g, 12, none⟩ = some (.int .i64 n.commit.1) := BlkAt.cell (BlkAt.grew HN3.out hb4) (by rfl); have n13 : w4.cell? ⟨g, 13, none⟩ = some (.int .i64 n.commit.2) := BlkAt.cell (BlkAt.grew HN3.out hb4) (by rfl); have nf := BlkAt.frozen (BlkAt.grew HN3.out hb4))
          | (refine ⟨trivial, ?_⟩; gi_at_call 30; refine (CallsIn.inRound l (callsIn_wide.2 (those_one g { n with commit := (G y).z } ⟨hl.nodes, hl.me, hl.peers⟩ _ _ _ (NodeAt.commited (BlkAt.grew HN3.out hb4) (G y).z)))).mono ?_; rintro e w6 ⟨rfl, hb6⟩))
        have hG5 : W.grownBy ((w4.setCell ⟨g, 12, none⟩ (.int .i64 (G y).e)).setCell ⟨g, 13, none⟩ (.int .i64 (G y).c)) (some g) := ((grown_below (HB3.out.trans (hb4.mono HB3.out.size)) (some g)).trans (grown_set w4 g 12 (.int .i64 (G y).e))).trans (grown_set _ g 13 (.int .i64 (G y).c))
        have hG6 := hG5.trans (grown_below hb6 (some g))
        have hN6 : NodeAt g { n with commit := (G y).z } w6 := BlkAt.grew (NodeAt.commited (BlkAt.grew HN3.out hb4) (G y).z) hb6
        exact ⟨KeepsFrom.of_grownBy hG6 (fun j e => by simp only [Option.some.injEq] at e; omega), rfl, y, rfl, fun _ _ => hN6, (grown_below HBW.out _).trans hG6⟩
      · have eb : ((G y).e != n.acc) = false := by rw [he]; simp
        have hle' : lessZ n.commit (G y).z = false := by simpa using hle
        rw [hle'] at HLs
        have HE := Lib.hid hle
        clear he hle hle'
        gi_wp2_with (fail)
        have hex := Grew.all W
        refine wpIn_region_grew (by kernel_rfl) (by kernel_rfl) (by kernel_rfl) ?_
        repeat (first | go_big_quiet_skip | (go_big_quiet_want; first | (refine quiet_load_cell _ _ rfl ⟨Bx, 0, none⟩ rfl _ _ Tryz.underlying3 rfl (fun W hW => Grew.cell hW x0) ?_; simp only [Act.put, List.setIfInBounds_toArray, List.set_cons_succ, List.set_cons_zero]; go_big_quiet_on) | (refine quiet_load_cell _ _ rfl ⟨g, 0, none⟩ rfl _ _ Tryz.underlying3 rfl (fun W hW => Grew.cell hW n0) ?_; simp only [Act.put, List.setIfInBounds_toArray, List.set_cons_succ, List.set_cons_zero]; go_big_quiet_on) | (refine quiet_load_cell _ _ rfl ⟨w.heap.size, 0, none⟩ rfl _ _ Tryz.underlying34 rfl (fun W hW => Grew.cell hW t1) ?_; simp only [Act.put, List.setIfInBounds_toArray, List.set_cons_succ, List.set_cons_zero]; go_big_quiet_on) | (refine quiet_load_mid 41 _ rfl Bx 0 rfl [.int .i64 (G y).e, .int .i64 (G y).c] _ (fun W hW => range2 (Grew.cell hW x0) (Grew.cell hW x1)) Tryz.underlying41 rfl (by kernel_rfl) ?_; simp only [Act.put, List.setIfInBounds_toArray, List.set_cons_succ, List.set_cons_zero]; go_big_quiet_on) | (refine quiet_load_mid 41 _ rfl g 12 rfl [.int .i64 n.commit.1, .int .i64 n.commit.2] _ (fun W hW => range2 (Grew.cell hW n12) (Grew.cell hW n13)) Tryz.underlying41 rfl (by kernel_rfl) ?_; simp only [Act.put, List.setIfInBounds_toArray, List.set_cons_succ, List.set_cons_zero]; go_big_quiet_on) | (go_big_quiet_op; first | go_big_quiet_on | (apply Exists.intro; refine ⟨fun W hW => ?_, ?_⟩; (first | exact rfl | (go_at_call 26; with_reducible exact Calls.grew hW (HLs.out _))); go_big_quiet_on))))
        refine wpQuiet_nil ?_
        intro w3 hw3
        clear hex
        gi_wp2
        have hb3 : Below W.heap.size W w3 := hw3
        exact ⟨keepsFrom_below hb3, rfl, y, rfl, fun _ e2 => absurd e2 HE.out, (grown_below HBW.out _).trans (grown_below hb3 _)⟩
    · have eb : ((G y).e != n.acc) = true := bne_iff_ne.2 he
      have HE := Lib.hid he
      clear he HLs
      gi_wp2_with (fail)
      have hex := Grew.all W
      refine wpIn_region_grew (by kernel_rfl) (by kernel_rfl) (by kernel_rfl) ?_
      repeat (first | go_big_quiet_skip | (go_big_quiet_want; first | (refine quiet_load_cell _ _ rfl ⟨Bx, 0, none⟩ rfl _ _ Tryz.underlying3 rfl (fun W hW => Grew.cell hW x0) ?_; simp only [Act.put, List.setIfInBounds_toArray, List.set_cons_succ, List.set_cons_zero]; go_big_quiet_on) | (refine quiet_load_cell _ _ rfl ⟨g, 0, none⟩ rfl _ _ Tryz.underlying3 rfl (fun W hW => Grew.cell hW n0) ?_; simp only [Act.put, List.setIfInBounds_toArray, List.set_cons_succ, List.set_cons_zero]; go_big_quiet_on) | (refine quiet_load_cell _ _ rfl ⟨w.heap.size, 0, none⟩ rfl _ _ Tryz.underlying34 rfl (fun W hW => Grew.cell hW t1) ?_; simp only [Act.put, List.setIfInBounds_toArray, List.set_cons_succ, List.set_cons_zero]; go_big_quiet_on) | (refine quiet_load_mid 41 _ rfl Bx 0 rfl [.int .i64 (G y).e, .int .i64 (G y).c] _ (fun W hW => range2 (Grew.cell hW x0) (Grew.cell hW x1)) Tryz.underlying41 rfl (by kernel_rfl) ?_; simp only [Act.put, List.setIfInBounds_toArray, List.set_cons_succ, List.set_cons_zero]; go_big_quiet_on) | (refine quiet_load_mid 41 _ rfl g 12 rfl [.int .i64 n.commit.1, .int .i64 n.commit.2] _ (fun W hW => range2 (Grew.cell hW n12) (Grew.cell hW n13)) Tryz.underlying41 rfl (by kernel_rfl) ?_; simp only [Act.put, List.setIfInBounds_toArray, List.set_cons_succ, List.set_cons_zero]; go_big_quiet_on) | (go_big_quiet_op; first | go_big_quiet_on | (apply Exists.intro; refine ⟨fun W hW => ?_, ?_⟩; (first | exact rfl); go_big_quiet_on))))
      refine wpQuiet_nil ?_
      intro w3 hw3
      clear hex
      gi_wp2
      have hb3 : Below W.heap.size W w3 := hw3
      exact ⟨keepsFrom_below hb3, rfl, y, rfl, fun e1 _ => absurd e1 HE.out, (grown_below HBW.out _).trans (grown_below hb3 _)⟩
  case done =>
    rintro D ys W hD rfl ⟨hz, hB⟩ hK
    have := congrArg List.length hz
    rw [backL_length m m (Nat.le_refl _)] at this
    simp at this
    omega
  case stop =>
    rintro D c' pre W hD ⟨k, hk, rfl⟩ ⟨rfl, y, hy, hN, hG'⟩ hK
    have hk1 : k = 1 := by
      have := congrArg List.length hy
      rw [backL_length m k hk] at this
      simpa using this
    subst hk1
    have hyx := hlast y hy.symm
    have hN2 := hN (by rw [hyx]; exact hx) (by rw [hyx]; exact hc)
    rw [hyx] at hN2
    have HH := Lib.hid (And.intro hN2 hG')
    clear hN hG' hN2
    gi_wp2
    refine ⟨by simp, .inl ⟨_, _, rfl, run_takeDeferred hK, ?_⟩⟩
    have hgD : w.grownBy (W.putObj D (.deferred none)) (some g) := grown_steps HH.out.2 (grownBy_putObj' _ D _) (.inr fun b e => by simp only [Option.some.injEq] at e; omega)
    refine ⟨.tuple #[], results_none rfl _ _ _, rfl, BlkAt.grown HH.out.1 (grownBy_putObj' _ D _) (by simp only [ne_eq, Option.some.injEq]; omega), hgD⟩
end Go.Proofs.YtkidhbflojlmoaaGreat
