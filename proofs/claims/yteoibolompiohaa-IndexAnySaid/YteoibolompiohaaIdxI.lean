/- The walk of Range. Conditions: as each theorem says. -/
import Derived.Test.YteoibolompiohaaIdxH
namespace Go.Proofs.Yteoibolompiohaa
open Go.RowKit Go.Shelf
attribute [local go_sem] Oper.semAt_some

def okTo (tk : Key) (p : Pr) : Bool := tk.isEmpty || kLt p.1 tk
def rngL (L : List Pr) (tk : Key) (most : Int) : List Pr := if most < 1 then [] else (L.takeWhile (okTo tk)).take most.toNat
theorem takeWhile_all {α : Type} (f : α → Bool) : ∀ (R r : List α), (∀ p ∈ R, f p = true) → (R ++ r).takeWhile f = R ++ r.takeWhile f := by
  intro R
  induction R with
  | nil => intro r _; rfl
  | cons a R ih => intro r h; rw [List.cons_append, List.takeWhile_cons, h a (by simp), ih r (fun p hp => h p (by simp [hp]))]; rfl
theorem rng_done (L : List Pr) (tk : Key) (most : Int) (h : ∀ p ∈ L, okTo tk p = true) (hl : (L.length : Int) < most) : rngL L tk most = L := by
  have := takeWhile_all (okTo tk) L [] h
  rw [List.append_nil, List.takeWhile_nil, List.append_nil] at this
  unfold rngL
  rw [if_neg (by omega), this, List.take_of_length_le (by omega)]
theorem rng_cut (R : List Pr) (x : Pr) (r : List Pr) (tk : Key) (most : Int) (h : ∀ p ∈ R, okTo tk p = true) (hx : okTo tk x = false) (hl : (R.length : Int) < most) : rngL (R ++ [x] ++ r) tk most = R := by
  unfold rngL
  rw [if_neg (by omega), List.append_assoc, takeWhile_all _ _ _ h, List.singleton_append, List.takeWhile_cons, hx]
  simp only [Bool.false_eq_true, if_false, List.append_nil]
  exact List.take_of_length_le (by omega)
theorem rng_full (R r : List Pr) (tk : Key) (most : Int) (h : ∀ p ∈ R, okTo tk p = true) (h1 : ¬ most < 1) (hl : (R.length : Int) = most) : rngL (R ++ r) tk most = R := by
  unfold rngL
  rw [if_neg h1, takeWhile_all _ _ _ h, ← hl, Int.toNat_natCast, List.take_left' rfl]
theorem wpListIn_append_eq {F : Fence} {n : Nat} {P : Program} {ops : Array Oper} {rest : List Oper} {o : Oper} {a : Act} {w : World} {Q : Exit → Act → World → Prop} (hgd : o.guard = none) (x y : Operand) (t : TypeId) (hop : o.op = .call { callee := .builtin .append, args := #[x, y], argTypes := #[t, t] })
    (v u r : Value) (w' : World) (hx : a.eval x = v) (hy : a.eval y = u) (hrun : (Builtin.append_ #[t, t] o.type #[v, u]).run P w = .ok r w') (hK : wpListIn F n P ops Q rest (a.put o.dst r) w') : wpListIn F n P ops Q (o :: rest) a w := by
  refine wpListIn_plain hgd fun K hK' => ?_
  unfold Oper.wpIn
  refine ⟨?_, ?_⟩
  · simp [Oper.about, hop, resolve, Target.leads, Sem.run_pure]
  · rw [Oper.semAt_plain F _ _ (by rw [hop]; intro c hc'; cases hc')]
    simp [execOp, hop, resolve, invoke, builtin, hx, hy, hrun, Result.andThen]
    exact hK' _ _ hK
def RangeSaid (w : World) (R : List Pr) (e : Ending) (w' : World) : Prop := ∃ v, e = .returned v ∧ Grow PrT 2 prCells w.heap.size v R w' ∧ Below w.heap.size w w'
def RngOut (w : World) (R : List Pr) (W : World) : Prop := ∃ v, BlkAt (w.heap.size + 1 + 1) 31 [v] W ∧ Grow PrT 2 prCells w.heap.size v R W
def RngI (w : World) (tk : Key) (most : Int) (pre : List Pr) (W : World) : Prop :=
  ((∀ p ∈ pre, okTo tk p = true) ∧ (pre.length : Int) < most) ∧ RngOut w pre W ∧ BlkAt w.heap.size 9 [.string (bs tk)] W ∧ BlkAt (w.heap.size + 1) 3 [.int .i64 most] W ∧ Below w.heap.size w W ∧ w.heap.size + 5 ≤ W.heap.size
def RngIx (w : World) (tk : Key) (most : Int) (c : Code) (pre : List Pr) (W : World) : Prop :=
  (c = .exit 0 ∧ ∃ R, RngOut w R W ∧ (∀ p ∈ R, okTo tk p = true) ∧ ((∃ x, pre = R ++ [x] ∧ okTo tk x = false ∧ (R.length : Int) < most) ∨ (pre = R ∧ (R.length : Int) = most)) ∧ Below w.heap.size w W)
def RngAx (tv : Option Addr) (k tk : Key) (most : Int) (w : World) (x : Pr) (a' : Act) (W : World) : Prop :=
  ∃ Bx, w.heap.size + 5 ≤ Bx ∧ BlkAt Bx PrT (prCells x) W ∧ a' = { tmps := #[.pointer tv, .string (bs k), .string (bs tk), .int .i64 most, undef, undef, .pointer (some ⟨w.heap.size, 0, none⟩), .pointer (some ⟨w.heap.size + 1, 0, none⟩), .slice none 0 0, .pointer (some ⟨w.heap.size + 1 + 1, 0, none⟩), .pointer (some ⟨Bx, 0, none⟩),
      .int .i64 most, .bool false, .pointer tv, .string (bs k), .func (.func 39) #[] #[.pointer (some ⟨w.heap.size + 1 + 1 + 1, 0, none⟩), .pointer (some ⟨w.heap.size + 1 + 1 + 1 + 1, 0, none⟩)], prV x,
      undef, undef, undef, undef, undef, undef, undef, undef, undef, undef, undef, undef, undef, undef, undef, undef, undef], defers := [] }
theorem rngOut_own {w : World} {R : List Pr} {W W' : World} {B : Nat} {row : Option Nat} (h : RngOut w R W) (hg : W.grownBy W' row) (hr : ∀ r, row = some r → B ≤ r ∧ ∃ o : Obj, W.heap[r]? = some o ∧ o.isCells = false) : RngOut w R W' := by
  obtain ⟨v, h1, h2⟩ := h
  exact ⟨v, own_blk h1 hg hr, own_grow h2 hg hr⟩
theorem rngOut_grew {w : World} {R : List Pr} {W W' : World} (h : RngOut w R W) (hb : Below W.heap.size W W') : RngOut w R W' := by
  obtain ⟨v, h1, h2⟩ := h
  exact ⟨v, h1.grew hb, h2.below hb⟩
theorem keepsFrom_row {B : Nat} {W W' : World} {row : Option Nat} (hg : W.grownBy W' row) (hr : ∀ j, row = some j → ∃ cs T fr, W.heap[j]? = some (.cells cs T fr)) : KeepsFrom B W W' :=
  ⟨hg.size, fun k o _ hk ho => (hg.block k (Array.getElem?_eq_some_iff.1 hk).1 (fun e => by
    obtain ⟨cs, T, fr, h⟩ := hr k e.symm
    rw [h] at hk
    cases hk
    cases ho)).trans hk⟩
theorem keepNd_row {W W' : World} {row : Option Nat} (hg : W.grownBy W' row) (hr : ∀ j, row = some j → ∃ cs T fr, W.heap[j]? = some (.cells cs T fr) ∧ T ≠ NdT) : KeepNd W W' := fun b cs fr h =>
  (hg.block b (Array.getElem?_eq_some_iff.1 h).1 (fun e => by
    obtain ⟨cs', T, fr', h2, hT⟩ := hr b e.symm
    rw [h2] at h
    simp only [Option.some.injEq, Obj.cells.injEq] at h
    exact hT h.2.1)).trans h
/-- A round's append: what it leaves. -/
theorem rng_step {w W w9 : World} {v : Value} {pre : List Pr} {x : Pr} {g1 cap1 : Nat} {cs6 cs7 : List Value} {T6 T7 : TypeId} (ho : BlkAt (w.heap.size + 1 + 1) 31 [v] W) (hG : Grow PrT 2 prCells w.heap.size v pre W) (hsW : w.heap.size ≤ W.heap.size)
    (h6 : BlkAt w.heap.size T6 cs6 W) (h7 : BlkAt (w.heap.size + 1) T7 cs7 W) (h6T : T6 ≠ PrT) (h7T : T7 ≠ PrT) (hG1 : Grow PrT 2 prCells w.heap.size (.slice (some ⟨g1, 0, none⟩) (pre.length + 1) cap1) (pre ++ [x]) w9) (hgr1 : W.grownBy w9 v.ownBlock) (B : Nat) :
    BlkAt (w.heap.size + 1 + 1) 31 [v] w9 ∧ BlkAt w.heap.size T6 cs6 w9 ∧ BlkAt (w.heap.size + 1) T7 cs7 w9 ∧
      ∀ u, u = Value.slice (some ⟨g1, 0, none⟩) (pre.length + 1) cap1 → KeepsFrom B W (w9.setCell ⟨w.heap.size + 1 + 1, 0, none⟩ u) ∧ KpN w.heap.size W (w9.setCell ⟨w.heap.size + 1 + 1, 0, none⟩ u) ∧ RngOut w (pre ++ [x]) (w9.setCell ⟨w.heap.size + 1 + 1, 0, none⟩ u) ∧
        BlkAt w.heap.size T6 cs6 (w9.setCell ⟨w.heap.size + 1 + 1, 0, none⟩ u) ∧ BlkAt (w.heap.size + 1) T7 cs7 (w9.setCell ⟨w.heap.size + 1 + 1, 0, none⟩ u) := by
  have hne : ∀ {g : Nat} {T : TypeId} {cs : List Value}, BlkAt g T cs W → T ≠ PrT → some g ≠ v.ownBlock := fun {g T cs} hb hT e => by
    obtain ⟨c1, e1⟩ := hG.block e.symm
    unfold BlkAt at hb
    rw [hb] at e1
    simp only [Option.some.injEq, Obj.cells.injEq] at e1
    exact hT e1.2.1
  have o9 := ho.grown hgr1 (hne ho (by decide))
  have k6 := h6.grown hgr1 (hne h6 h6T)
  have k7 := h7.grown hgr1 (hne h7 h7T)
  refine ⟨o9, k6, k7, fun u hu => ?_⟩
  subst hu
  have hgs := grown_set w9 (w.heap.size + 1 + 1) 0 (.slice (some ⟨g1, 0, none⟩) (pre.length + 1) cap1)
  refine ⟨(keepsFrom_row hgr1 (fun j e => ?_)).trans (keepsFrom_row hgs (fun j e => ?_)), KpN.trans ⟨(Below.refl _ W).grown hgr1 hsW (fun j e => own_base hG j e), keepNd_row hgr1 (fun j e => ?_)⟩ ⟨(Below.refl _ w9).grown hgs (Nat.le_trans hsW hgr1.size) (fun j e => by cases e; omega), keepNd_row hgs (fun j e => ?_)⟩, ⟨_, o9.set 0 _, ?_⟩, ?_, ?_⟩
  · obtain ⟨c1, e1⟩ := hG.block e
    exact ⟨_, _, _, e1⟩
  · cases e; exact ⟨_, _, _, o9⟩
  · obtain ⟨c1, e1⟩ := hG.block e
    exact ⟨_, _, _, e1, by decide⟩
  · cases e; exact ⟨_, _, _, o9, by decide⟩
  · refine hG1.kept2 hgs (fun b hb e => ?_)
    obtain ⟨c1, e1⟩ := hG1.block hb
    cases e
    unfold BlkAt at o9
    rw [o9] at e1
    simp only [Option.some.injEq, Obj.cells.injEq] at e1
    exact absurd e1.2.1 (by decide)
  · exact k6.grown hgs (by intro e; simp at e; omega)
  · exact k7.grown hgs (by intro e; simp at e)
set_option maxRecDepth 100000 in
set_option maxHeartbeats 2000000 in
theorem range_some (tv : Option Addr) (k tk : Key) (most : Int) (L : List Pr) (w : World) (HA : AllStops tv k L w) (h1 : ¬ most < 1) (hL : L.length ≤ 1000000) : Calls Try.prog 13 #[.pointer tv, .string (bs k), .string (bs tk), .int .i64 most] w (RangeSaid w (rngL L tk most)) := by
  refine (callsIn_wide (n := 3)).1 ?_
  refine callsIn_of_wp_marks Try.func13 rfl trivial ?_ rfl
  simp only [Try.ntmps13, List.size_toArray, List.length_cons, List.length_nil, Nat.reduceAdd, Nat.reduceSub, Array.replicate_succ, Array.replicate_zero, List.push_toArray, List.append_toArray, List.nil_append, List.cons_append]
  gi_wp2_with (refine ⟨trivial, ?_⟩; gi_at_call 30; refine (callsIn_wide.2 (all_any _ _ _)).mono ?_; rintro e w' ⟨rfl, rfl⟩)
  have b0 := ((((BlkAt.alloc_new w [.string (bs tk)] 9).grew (alloc_below _ (.cells #[.int .i64 most] 3))).grew (alloc_below _ (.cells #[.slice none 0 0] 31))).grew (alloc_below _ (.cells #[.pointer tv] 23))).grew (alloc_below _ (.cells #[.string (bs k)] 9))
  have b1 := (((BlkAt.alloc_new (w.alloc (.cells #[.string (bs tk)] 9)) [.int .i64 most] 3).grew (alloc_below _ (.cells #[.slice none 0 0] 31))).grew (alloc_below _ (.cells #[.pointer tv] 23))).grew (alloc_below _ (.cells #[.string (bs k)] 9))
  have b2 := ((BlkAt.alloc_new ((w.alloc (.cells #[.string (bs tk)] 9)).alloc (.cells #[.int .i64 most] 3)) [.slice none 0 0] 31).grew (alloc_below _ (.cells #[.pointer tv] 23))).grew (alloc_below _ (.cells #[.string (bs k)] 9))
  have b3 := (BlkAt.alloc_new (((w.alloc (.cells #[.string (bs tk)] 9)).alloc (.cells #[.int .i64 most] 3)).alloc (.cells #[.slice none 0 0] 31)) [.pointer tv] 23).grew (alloc_below _ (.cells #[.string (bs k)] 9))
  have b4 := BlkAt.alloc_new ((((w.alloc (.cells #[.string (bs tk)] 9)).alloc (.cells #[.int .i64 most] 3)).alloc (.cells #[.slice none 0 0] 31)).alloc (.cells #[.pointer tv] 23)) [.string (bs k)] 9
  have hB4 : Below w.heap.size w (((((w.alloc (.cells #[.string (bs tk)] 9)).alloc (.cells #[.int .i64 most] 3)).alloc (.cells #[.slice none 0 0] 31)).alloc (.cells #[.pointer tv] 23)).alloc (.cells #[.string (bs k)] 9)) := (((((Below.refl _ w).alloc (Nat.le_refl _) _).alloc (by simp) _).alloc (by simp; omega) _).alloc (by simp; omega) _).alloc (by simp; omega) _
  have hsz : (((((w.alloc (.cells #[.string (bs tk)] 9)).alloc (.cells #[.int .i64 most] 3)).alloc (.cells #[.slice none 0 0] 31)).alloc (.cells #[.pointer tv] 23)).alloc (.cells #[.string (bs k)] 9)).heap.size = w.heap.size + 5 := by simp
  simp only [World.size_alloc] at b1 b2 b3 b4
  obtain ⟨W0, hW0⟩ : ∃ W0, (((((w.alloc (.cells #[.string (bs tk)] 9)).alloc (.cells #[.int .i64 most] 3)).alloc (.cells #[.slice none 0 0] 31)).alloc (.cells #[.pointer tv] 23)).alloc (.cells #[.string (bs k)] 9)) = W0 := ⟨_, rfl⟩
  rw [hW0] at b0 b1 b2 b3 b4 hsz hB4 ⊢
  clear hW0
  refine wpIn_rangeFunc_ownH rfl (by omega) (gf := 39) (lb := #[.pointer (some ⟨w.heap.size + 1 + 1 + 1, 0, none⟩), .pointer (some ⟨w.heap.size + 1 + 1 + 1 + 1, 0, none⟩)]) rfl trivial (enters_of Try.func39 (by kernel_rfl) rfl)
    (HA (3 - 1) (w.heap.size + 1 + 1 + 1) (w.heap.size + 1 + 1 + 1 + 1) W0 hB4 (by omega) (by omega) (b3.cell rfl) (b4.cell rfl)) KpN.trans (KpN.put (by omega)) (Below.refl _ _) (fun _ => rfl)
    (RngI w tk most) (RngIx w tk most)
    (fun s A B row hs hg hr => ⟨hs.1, rngOut_own hs.2.1 hg hr, own_blk hs.2.2.1 hg hr, own_blk hs.2.2.2.1 hg hr, below_own (by omega) hs.2.2.2.2.1 hg hr, Nat.le_trans hs.2.2.2.2.2 hg.size⟩)
    (fun c s A B row hs hg hr => by
      obtain ⟨h1, R, h2, h3, h4, h5⟩ := hs
      exact ⟨h1, R, rngOut_own h2 hg hr, h3, h4, below_own (by omega) h5 hg hr⟩)
    ⟨⟨by simp, by simp; omega⟩, ⟨_, b2, Grow.nil _⟩, b0, b1, hB4, by omega⟩ (RngAx tv k tk most w)
    (fun x a' _ A B row hs hg hr => by
      obtain ⟨Bx, h1, h2, h3⟩ := hs
      exact ⟨Bx, h1, own_blk h2 hg hr, h3⟩) ?assign ?body ?done ?stop
  case assign =>
    rintro l pre x W K ⟨hp, ho, h0, h1', hB, hs5⟩ hK
    have hsW := hB.size
    unfold prV
    gi_wp2
    exact hK _ _ (keepsFrom_below (alloc_below W _)) (KpN.alloc W hsW _) ⟨hp, rngOut_grew ho (alloc_below W _), h0.grew (alloc_below W _), h1'.grew (alloc_below W _), hB.trans ((alloc_below W _).mono hsW), by simp; omega⟩ ⟨W.heap.size, hs5, BlkAt.alloc_new W (prCells x) PrT, rfl⟩
  case body =>
    rintro l pre x a' W hl _ ⟨hp, ⟨v, ho, hG⟩, h0, h1', hB, hs5⟩ ⟨Bx, hBx, hbx, rfl⟩ hpl
    have x0 := hbx.cell (i := 0) rfl
    have x1 := hbx.cell (i := 1) rfl
    have q6 := h0.cell (i := 0) rfl
    have q7 := h1'.cell (i := 0) rfl
    have q9 := ho.cell (i := 0) rfl
    have hsW := hB.size
    obtain ⟨va, vc, hv⟩ := hG.slice
    obtain ⟨g1, cap1, w9, hrun1, hG1, hgr1, hat1, hlt1, hsz1⟩ := append_run (P := Try.prog) (w := W) 31 Try.underlying31 (.agg #[.string ⟨#[]⟩, .int .i64 0]) 24 infoPr rfl (by omega) hG hsW x rfl (prCells_one x) (by unfold maxLen; omega) (by omega)
    obtain ⟨o9, k6, k7, hstep⟩ := rng_step ho hG hsW h0 h1' (by decide) (by decide) hG1 hgr1 W0.heap.size
    have HStep := Lib.hid (hstep _ rfl)
    have HR1 : Hid ((Builtin.append_ #[31, 31] 31 #[v, .slice (some ⟨W.heap.size, 0, none⟩) 1 1]).run Try.prog (W.alloc (.cells #[.string (bs x.1), .int .i64 x.2] 37)) = .ok (.slice (some ⟨g1, 0, none⟩) (pre.length + 1) cap1) w9) := Lib.hid hrun1
    have r9 := o9.cell (i := 0) rfl
    have z9 := o9.frozen 0
    have l9 := o9.lt
    have r7 := k7.cell (i := 0) rfl
    have HI := Lib.hid (And.intro hp (And.intro hB (And.intro (And.intro ho hG) (And.intro h0 (And.intro h1' (Nat.le_trans hs5 hgr1.size))))))
    rw [hv] at q9 HR1 r9
    have HV := Lib.hid hv
    clear hp ho hG h0 h1' hB hbx hrun1 hG1 hgr1 hat1 hsz1 hstep o9 k6 k7 hv
    unfold prV
    have hgo : okTo tk x = true → ((tk = []) ∨ (tk ≠ [] ∧ kLt x.1 tk = true)) := fun h => by
      unfold okTo at h
      cases tk with
      | nil => exact .inl rfl
      | cons a b => exact .inr ⟨by simp, by simpa using h⟩
    by_cases hok : okTo tk x = true
    · have HOKs : Hid (∀ p ∈ pre ++ [x], okTo tk p = true) := Lib.hid (fun p hp => by
        rcases List.mem_append.1 hp with hp | hp
        · exact HI.out.1.1 p hp
        · rw [List.mem_singleton.1 hp]; exact hok)
      have hpl1 : pre.length ≤ 1000000 := by omega
      rcases hgo hok with rfl | ⟨h0, h1⟩
      · have e0 : (bs []).toList = [] := bs_toList []
        have e1 : (bs []).toList.isEmpty = true := by rw [e0]; rfl
        clear hgo hok
        by_cases hfull : (pre.length : Int) + 1 = most
        · have hfb : ((pre.length : Int) + 1 == most) = true := beq_iff_eq.2 hfull
          have HF := Lib.hid hfull
          clear hfull
          gi_wp2_with (gi_at_builtin; refine wpListIn_append_eq (by rfl) _ _ 31 (by rfl) _ _ _ _ (by rfl) (by rfl) HR1.out ?_)
          refine ⟨HStep.out.1, rfl, pre ++ [x], HStep.out.2.2.1, HOKs.out, .inr ⟨rfl, by rw [← HF.out]; simp⟩, HI.out.2.1.trans HStep.out.2.1.1⟩
        · have hfb : ((pre.length : Int) + 1 == most) = false := beq_eq_false_iff_ne.2 hfull
          have HF := Lib.hid hfull
          clear hfull
          gi_wp2_with (gi_at_builtin; refine wpListIn_append_eq (by rfl) _ _ 31 (by rfl) _ _ _ _ (by rfl) (by rfl) HR1.out ?_)
          refine ⟨HStep.out.1, HStep.out.2.1, ⟨HOKs.out, ?_⟩, HStep.out.2.2.1, HStep.out.2.2.2.1, HStep.out.2.2.2.2, HI.out.2.1.trans HStep.out.2.1.1, ?_⟩
          · have := HI.out.1.2
            have := HF.out
            simp; omega
          · exact Nat.le_trans hs5 HStep.out.2.1.1.size
      · have e0 : ¬ (bs tk).toList = [] := by rw [bs_toList]; exact h0
        have e1 : (bs tk).toList.isEmpty = false := by
          rw [bs_toList]
          cases tk with
          | nil => exact absurd rfl h0
          | cons a b => rfl
        have e2 : Op.bytesLess (bs x.1).toList (bs tk).toList = true := by rw [bs_toList, bs_toList]; exact h1
        clear hgo hok h0 h1
        by_cases hfull : (pre.length : Int) + 1 = most
        · have hfb : ((pre.length : Int) + 1 == most) = true := beq_iff_eq.2 hfull
          have HF := Lib.hid hfull
          clear hfull
          gi_wp2_with (gi_at_builtin; refine wpListIn_append_eq (by rfl) _ _ 31 (by rfl) _ _ _ _ (by rfl) (by rfl) HR1.out ?_)
          refine ⟨HStep.out.1, rfl, pre ++ [x], HStep.out.2.2.1, HOKs.out, .inr ⟨rfl, by rw [← HF.out]; simp⟩, HI.out.2.1.trans HStep.out.2.1.1⟩
        · have hfb : ((pre.length : Int) + 1 == most) = false := beq_eq_false_iff_ne.2 hfull
          have HF := Lib.hid hfull
          clear hfull
          gi_wp2_with (gi_at_builtin; refine wpListIn_append_eq (by rfl) _ _ 31 (by rfl) _ _ _ _ (by rfl) (by rfl) HR1.out ?_)
          refine ⟨HStep.out.1, HStep.out.2.1, ⟨HOKs.out, ?_⟩, HStep.out.2.2.1, HStep.out.2.2.2.1, HStep.out.2.2.2.2, HI.out.2.1.trans HStep.out.2.1.1, ?_⟩
          · have := HI.out.1.2
            have := HF.out
            simp; omega
          · exact Nat.le_trans hs5 HStep.out.2.1.1.size
    · rw [Bool.not_eq_true] at hok
      have HOK := Lib.hid hok
      have h0 : tk ≠ [] := fun e => by subst e; cases hok
      have h1 : kLt x.1 tk = false := by
        cases tk with
        | nil => exact absurd rfl h0
        | cons a b => simpa [okTo] using hok
      have e0 : ¬ (bs tk).toList = [] := by rw [bs_toList]; exact h0
      have e1 : (bs tk).toList.isEmpty = false := by
        rw [bs_toList]
        cases tk with
        | nil => exact absurd rfl h0
        | cons a b => rfl
      have e2 : Op.bytesLess (bs x.1).toList (bs tk).toList = false := by rw [bs_toList, bs_toList]; exact h1
      clear hgo hok h0 h1
      gi_wp2
      exact ⟨KeepsFrom.refl _ _, rfl, pre, ⟨v, HI.out.2.2.1⟩, HI.out.1.1, .inl ⟨x, rfl, HOK.out, HI.out.1.2⟩, HI.out.2.1⟩
  case done =>
    rintro D ys W hD rfl ⟨hp, ⟨v, ho, hG⟩, h0, h1', hB, hs5⟩ hK
    have q0 := ho.cell (i := 0) rfl
    have H := Lib.hid (And.intro hG hB)
    have HP := Lib.hid hp
    clear hG hB hp
    gi_wp2
    refine ⟨by simp, .inl ⟨_, _, rfl, run_takeDeferred hK, ?_⟩⟩
    refine ⟨_, results_tmp rfl _ _ _, v, rfl, ?_, H.out.2.trans (belowK_b (w := w) (Nat.le_refl _) W D _ _ (by omega) hK rfl rfl)⟩
    rw [rng_done _ _ _ HP.out.1 HP.out.2]
    exact ownsRow_putObj H.out.1 _ hK rfl
  case stop =>
    rintro D c pre W hD hpre ⟨rfl, R, ⟨v, ho, hG⟩, hok, hcase, hB⟩ hK
    have q0 := ho.cell (i := 0) rfl
    have H := Lib.hid (And.intro hG hB)
    have HP := Lib.hid (And.intro hok (And.intro hcase hpre))
    clear hG hB hok hcase hpre
    gi_wp2
    refine ⟨by simp, .inl ⟨_, _, rfl, run_takeDeferred hK, ?_⟩⟩
    refine ⟨_, results_tmp rfl _ _ _, v, rfl, ?_, H.out.2.trans (belowK_b (w := w) (Nat.le_refl _) W D _ _ (by omega) hK rfl rfl)⟩
    have e : rngL L tk most = R := by
      obtain ⟨r, hr⟩ := HP.out.2.2
      rw [← hr]
      rcases HP.out.2.1 with ⟨x, rfl, hx, hl⟩ | ⟨rfl, hl⟩
      · exact rng_cut R x r tk most HP.out.1 hx hl
      · exact rng_full pre r tk most HP.out.1 (by omega) hl
    rw [e]
    exact ownsRow_putObj H.out.1 _ hK rfl
set_option maxRecDepth 100000 in
set_option maxHeartbeats 1000000 in
theorem range_few (tv : Option Addr) (k tk : Key) (most : Int) (L : List Pr) (w : World) (h1 : most < 1) : Calls Try.prog 13 #[.pointer tv, .string (bs k), .string (bs tk), .int .i64 most] w (RangeSaid w (rngL L tk most)) := by
  have e : rngL L tk most = [] := by unfold rngL; rw [if_pos h1]
  rw [e]
  have hB : Below w.heap.size w (((w.alloc (.cells #[.string (bs tk)] 9)).alloc (.cells #[.int .i64 most] 3)).alloc (.cells #[.slice none 0 0] 31)) := (((Below.refl _ w).alloc (Nat.le_refl _) _).alloc (by simp) _).alloc (by simp; omega) _
  have HB := Lib.hid hB
  clear hB e
  go_enter Try.func13, Try.ntmps13
  go_wp2
  go_ret
  exact ⟨_, rfl, Grow.nil _, HB.out⟩
theorem range_any (tv : Option Addr) (k tk : Key) (most : Int) (L : List Pr) (w : World) (HA : AllStops tv k L w) (hL : L.length ≤ 1000000) : Calls Try.prog 13 #[.pointer tv, .string (bs k), .string (bs tk), .int .i64 most] w (RangeSaid w (rngL L tk most)) := by
  by_cases h1 : most < 1
  · exact range_few tv k tk most L w h1
  · exact range_some tv k tk most L w HA h1 hL
end Go.Proofs.Yteoibolompiohaa
