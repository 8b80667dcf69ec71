/- The walk of walk: what it hands to a loop's body, by induction on the levels. Conditions: as each theorem says. -/
import Derived.Test.YteoibolompiohaaIdxX
import Derived.Test.YteoibolompiohaaIdxY
import Derived.RangeFuncNested
import Derived.RangeFuncBound
import Derived.RangeFuncCalls
import Derived.RangeFuncLeaves
import Derived.Shelf.Abstract
import Derived.Shelf.RegionOpen
import Derived.OwnWalkIn
import Derived.TacticsInMore
import Derived.LoopNIn
import Derived.LoopIn
namespace Go.Proofs.Yteoibolompiohaa
open Go.RowKit Go.Shelf
attribute [local go_sem] Oper.semAt_some

def prV (x : Pr) : Value := .agg #[.string (bs x.1), .int .i64 x.2]
def KeepNd (W W' : World) : Prop := ∀ (b : Nat) (cs : Array Value) (fr : Nat × Nat), W.heap[b]? = some (.cells cs NdT fr) → W'.heap[b]? = some (.cells cs NdT fr)
/-- What a round that goes on keeps: what lay below n₀, and all nodes. -/
def KpN (n₀ : Nat) (W W' : World) : Prop := Below n₀ W W' ∧ KeepNd W W'
theorem KpN.trans {n₀ : Nat} {A B C : World} (h : KpN n₀ A B) (k : KpN n₀ B C) : KpN n₀ A C := ⟨h.1.trans k.1, fun b cs fr e => k.2 b cs fr (h.2 b cs fr e)⟩
theorem KpN.refl (n₀ : Nat) (W : World) : KpN n₀ W W := ⟨Below.refl _ _, fun _ _ _ h => h⟩
theorem KpN.alloc {n₀ : Nat} (W : World) (h : n₀ ≤ W.heap.size) (o : Obj) : KpN n₀ W (W.alloc o) := ⟨(alloc_below W o).mono h, fun b cs fr e => by
  have hl := (Array.getElem?_eq_some_iff.1 e).1
  rw [(alloc_below W o).block b hl]; exact e⟩
theorem KpN.blk {n₀ : Nat} {W W' : World} (h : KpN n₀ W W') {g : Nat} {cs : List Value} (hb : BlkAt g NdT cs W) : BlkAt g NdT cs W' := h.2 g _ _ hb
theorem KpN.size {n₀ : Nat} {W W' : World} (h : KpN n₀ W W') : W.heap.size ≤ W'.heap.size := h.1.size
def YSaid (n₀ : Nat) (J Jx : List Pr → World → Prop) (pre : List Pr) (W : World) (e : Ending) (W' : World) : Prop :=
  (e = .returned (.bool true) ∧ J pre W' ∧ KpN n₀ W W') ∨ (e = .returned (.bool false) ∧ Jx pre W')
def WSaid (n₀ : Nat) (J Jx : List Pr → World → Prop) (pre L : List Pr) (W : World) (e : Ending) (W' : World) : Prop :=
  (e = .returned (.bool true) ∧ J (pre ++ L) W' ∧ KpN n₀ W W') ∨ (e = .returned (.bool false) ∧ ∃ q, q <+: L ∧ Jx (pre ++ q) W')
section
variable {m : Mem} {t : Tr} {w0 : World}
set_option maxRecDepth 100000 in
set_option maxHeartbeats 4000000 in
theorem walk_leaf (l : Nat) (hT : TreeAt m t w0) (hn : t.nodes.length ≤ 1000000) (k : Key) (N : Nat) (J Jx : List Pr → World → Prop) (hJ : ∃ B, AbidesFrom B J)
    (hY : ∀ f pre x W, J pre W → pre.length < N → YieldAt Fence.wide f Try.prog l #[prV x] W (YSaid w0.heap.size J Jx (pre ++ [x]) W))
    (n a : Nat) (pre : List Pr) (W : World) (hok : t.ok 0 a) (hB : Below w0.heap.size w0 W) (hp : J pre W) (hN : pre.length + (t.sfx k 0 a).length ≤ N) :
    CallsIn Fence.wide n Try.prog 40 #[ptrV m.g, .int .i64 (a : Int), .string (bs k), .func (.yield l) #[] #[]] W (WSaid w0.heap.size J Jx pre (t.sfx k 0 a) W) := by
  have ha := ok_lt hok
  have h9 := ok_ps hok
  have hks : (t.nd a).ks = [] := by rw [Tr.ok] at hok; exact hok.2.1
  have T := hT.grew hB
  have HS := Lib.hid (spot_any T a ha hn (by omega) k)
  unfold ptrV at HS
  obtain ⟨pv, kv, hN2, c0, c1, hP, hK⟩ := T.node a ha
  obtain ⟨pv', kv', hN3, -, -, hP0, -⟩ := hT.node a ha
  rw [hN2] at hN3
  simp only [Option.some.injEq, Prod.mk.injEq] at hN3
  obtain ⟨rfl, rfl⟩ := hN3
  obtain ⟨pa, pc, rfl⟩ := hP.slice
  obtain ⟨ka, kc, rfl⟩ := hK.slice
  rw [hks, List.length_nil] at c1
  have g0 := T.top.cell (i := 0) rfl
  have haa : (a : Int) < (t.nodes.length : Int) := by omega
  have hsp := spotF_le (t.nd a).ps k
  rw [sfx_leaf] at hN ⊢
  obtain ⟨ps, hps⟩ : ∃ ps, ps = (t.nd a).ps := ⟨_, rfl⟩
  rw [← hps] at hP0 hN hsp h9 c0 HS ⊢
  have HP := Lib.hid hP0
  obtain ⟨sp, hspe⟩ : ∃ sp, sp = spotF ps k := ⟨_, rfl⟩
  rw [← hspe] at HS hN hsp ⊢
  obtain ⟨B, hJB⟩ := hJ
  have HJ0 : Hid (J pre (W.alloc (.cells #[.slice pa ps.length pc, .slice ka 0 kc] NdT))) := Lib.hid (hJB _ _ _ none hp (World.grownBy_alloc _ _ _) (fun r e => by cases e))
  have hBx := BlkAt.alloc_new W [.slice pa ps.length pc, .slice ka 0 kc] NdT
  have hKp := KpN.alloc W hB.size (.cells #[.slice pa ps.length pc, .slice ka 0 kc] NdT)
  have HBx := Lib.hid (And.intro hBx hKp)
  have HY := Lib.hid hY
  have HN := Lib.hid hN
  have hW0 := Lib.hid hB
  obtain ⟨hs, hhs⟩ : ∃ hs, hs = hasF ps k := ⟨_, rfl⟩
  rw [← hhs] at HS
  clear hT hJB hY T hP hK hN2 hP0 hN hB hp hok hks hBx hKp hspe hps hhs
  unfold ptrV
  refine callsIn_of_wp Try.func40 rfl trivial ?_ rfl
  simp only [Try.ntmps40, List.size_toArray, List.length_cons, List.length_nil, Nat.reduceAdd, Nat.reduceSub, Array.replicate_succ, Array.replicate_zero, List.push_toArray, List.append_toArray, List.nil_append, List.cons_append]
  cases hs
  all_goals
    gi_wp2_with (refine ⟨trivial, ?_⟩; (try refine ⟨fun h => (by cases h), ?_⟩); gi_at_call 32; refine (callsIn_wide.2 HS.out).mono ?_; rintro e w' ⟨rfl, rfl⟩)
    refine ⟨trivial, ?_⟩
    gi_wp2
    obtain ⟨W1, hW1⟩ : ∃ W1, W1 = W.alloc (.cells #[.slice pa ps.length pc, .slice ka 0 kc] NdT) := ⟨_, rfl⟩
    obtain ⟨bx, hbx⟩ : ∃ bx, bx = W.heap.size := ⟨_, rfl⟩
    have HI : Hid (J pre W1 ∧ BlkAt bx NdT [.slice pa ps.length pc, .slice ka 0 kc] W1 ∧ KpN w0.heap.size W W1) := Lib.hid ⟨by rw [hW1]; exact HJ0.out, by rw [hW1, hbx]; exact HBx.out.1, by rw [hW1]; exact HBx.out.2⟩
    have hW1' : W.alloc (.cells #[.slice pa ps.length pc, .slice ka 0 kc] 70) = W1 := hW1.symm
    rw [hW1', ← hbx]
    clear hW1 hW1' hbx g0 c0 c1 HS HJ0 HBx
    gi_loopw [9] (fun v wr => ∃ (i : Nat) (come : List Pr), v = .int .i64 (i : Int) ∧ i ≤ ps.length ∧ Hid (come ++ ps.drop i = ps.drop sp) ∧ Hid (J (pre ++ come) wr ∧ BlkAt bx NdT [.slice pa ps.length pc, .slice ka 0 kc] wr ∧ KpN w0.heap.size W wr)) (fun v _ => ps.length - (intOf v).toNat)
    case atStart => exact ⟨sp, [], rfl, hsp, Lib.hid (List.nil_append _), Lib.hid (by rw [List.append_nil]; exact HI.out)⟩
    case round =>
      obtain ⟨i, come, rfl, hi, HC, HR⟩ := hrel
      have b0 := HR.out.2.1.cell (i := 0) rfl
      have b1 := HR.out.2.1.cell (i := 1) rfl
      by_cases hlt : i < ps.length
      · have hcx : (come ++ [ps[i]]) ++ ps.drop (i + 1) = ps.drop sp := by
          have := HC.out
          rw [List.drop_eq_getElem_cons hlt] at this
          simpa using this
        have hBw := hW0.out.trans HR.out.2.2.1
        obtain ⟨pb, pcap, hpv, _⟩ := HP.out.form (by omega)
        have hGp := Grow.below HP.out hBw
        rw [hpv] at hGp
        simp only [Value.slice.injEq] at hpv
        obtain ⟨rfl, _, rfl⟩ := hpv
        have hcc := hGp.cells prCells_len rfl i hlt
        have k0 := hcc 0 _ rfl
        have k1 := hcc 1 _ rfl
        rw [Nat.add_zero] at k0
        have hcl : (pre ++ come).length < N := by
          have h1 := congrArg List.length hcx
          have h2 := HN.out
          simp only [List.length_append, List.length_singleton] at h1 ⊢
          omega
        have hyy := HY.out (n - 1) (pre ++ come) ps[i] wr HR.out.1 hcl
        have HCX := Lib.hid hcx
        have hil : (i : Int) < (ps.length : Int) := by omega
        have hw1 : IntKind.i64.wrap ((i : Int) + 1) = (i : Int) + 1 := IntWalk.i64_in _ (by omega)
        unfold prV at hyy
        generalize ps[i] = x at *
        obtain ⟨fn, tmps, assign, body, hy, hR⟩ := hyy
        clear hcc hGp hcl hcx hBw
        gi_wp2
        refine ⟨fun h => (by cases h), hR.mono ?_⟩
        rintro e W3 (⟨rfl, hJ3, hk3⟩ | ⟨rfl, hx3⟩)
        · have hbx3 := hk3.blk HR.out.2.1
          have b0 := hbx3.cell (i := 0) rfl
          have b1 := hbx3.cell (i := 1) rfl
          have HR3 : Hid (J (pre ++ (come ++ [x])) W3 ∧ BlkAt bx NdT [.slice (some ⟨pb, 0, none⟩) ps.length pc, .slice ka 0 kc] W3 ∧ KpN w0.heap.size W W3) := Lib.hid ⟨by rw [← List.append_assoc]; exact hJ3, hbx3, HR.out.2.2.trans hk3⟩
          gi_wp2
          refine ⟨trivial, ?_⟩
          gi_wp2
          go_roundw
          case rel => exact ⟨i + 1, come ++ [x], by go_num, by omega, HCX, HR3⟩
          case measure => simp [intOf]; omega
        · gi_wp2
          go_ret
          exact .inr ⟨rfl, come ++ [x], ⟨ps.drop (i + 1), HCX.out⟩, by rw [← List.append_assoc]; exact hx3⟩
      · obtain rfl : i = ps.length := by omega
        gi_wp2
        go_ret
        have hce := HC.out
        rw [List.drop_length, List.append_nil] at hce
        exact .inl ⟨rfl, by rw [← hce]; exact HR.out.1, HR.out.2.2⟩
set_option maxRecDepth 100000 in
set_option maxHeartbeats 4000000 in
theorem walk_node (l : Nat) (hT : TreeAt m t w0) (hn : t.nodes.length ≤ 1000000) (k : Key) (N : Nat) (J Jx : List Pr → World → Prop) (hJ : ∃ B, AbidesFrom B J)
    (hY : ∀ f pre x W, J pre W → pre.length < N → YieldAt Fence.wide f Try.prog l #[prV x] W (YSaid w0.heap.size J Jx (pre ++ [x]) W)) (d : Nat)
    (ih : ∀ (n a : Nat) (pre : List Pr) (W : World), t.ok d a → SortedK (t.cont d a) → Below w0.heap.size w0 W → J pre W → pre.length + (t.sfx k d a).length ≤ N →
      CallsIn Fence.wide n Try.prog 40 #[ptrV m.g, .int .i64 (a : Int), .string (bs k), .func (.yield l) #[] #[]] W (WSaid w0.heap.size J Jx pre (t.sfx k d a) W))
    (n a : Nat) (pre : List Pr) (W : World) (hok : t.ok (d + 1) a) (hsrt : SortedK (t.cont (d + 1) a)) (hB : Below w0.heap.size w0 W) (hp : J pre W) (hN : pre.length + (t.sfx k (d + 1) a).length ≤ N) :
    CallsIn Fence.wide n Try.prog 40 #[ptrV m.g, .int .i64 (a : Int), .string (bs k), .func (.yield l) #[] #[]] W (WSaid w0.heap.size J Jx pre (t.sfx k (d + 1) a) W) := by
  have ha := ok_lt hok
  have h9 := ok_ps hok
  have hkl : (t.nd a).ks.length = (t.nd a).ps.length + 1 := by rw [Tr.ok] at hok; exact hok.2.1
  have T := hT.grew hB
  have HS := Lib.hid (spot_any T a ha hn (by omega) k)
  unfold ptrV at HS ih
  obtain ⟨pv, kv, hN2, c0, c1, hP, hK⟩ := T.node a ha
  obtain ⟨pv', kv', hN3, -, -, hP0, hK0⟩ := hT.node a ha
  rw [hN2] at hN3
  simp only [Option.some.injEq, Prod.mk.injEq] at hN3
  obtain ⟨rfl, rfl⟩ := hN3
  obtain ⟨pa, pc, rfl⟩ := hP.slice
  obtain ⟨kb, kc, hkv, _⟩ := hK.form (by omega)
  rw [hkv] at hK0 c1
  have g0 := T.top.cell (i := 0) rfl
  have haa : (a : Int) < (t.nodes.length : Int) := by omega
  have hsp := spotF_le (t.nd a).ps k
  have hsk : spotF (t.nd a).ps k < (t.nd a).ks.length := by omega
  obtain ⟨total, htot⟩ : ∃ total, total = t.sfx k (d + 1) a := ⟨_, rfl⟩
  have hsf1 := fun h => sfx_has (k := k) hok hsrt h
  have hsf2 := fun h => sfx_not (k := k) hok hsrt h hsk
  obtain ⟨x0, hx0⟩ : ∃ x0, x0 = (t.nd a).ks[spotF (t.nd a).ps k] := ⟨_, rfl⟩
  have hx0o : t.ok d x0 ∧ SortedK (t.cont d x0) := by rw [hx0]; exact ⟨(ok_kid hok _ hsk).1, kid_sorted hok hsrt _ hsk⟩
  rw [← htot] at hN hsf1 hsf2 ⊢
  rw [← hx0] at hsf2
  obtain ⟨ps, hps⟩ : ∃ ps, ps = (t.nd a).ps := ⟨_, rfl⟩
  obtain ⟨ks, hks⟩ : ∃ ks, ks = (t.nd a).ks := ⟨_, rfl⟩
  have hkid : ∀ i (hi : i < ks.length), t.ok d ks[i] ∧ SortedK (t.cont d ks[i]) := by rw [hks]; exact fun i hi => ⟨(ok_kid hok i hi).1, kid_sorted hok hsrt i hi⟩
  simp only [← hps, ← hks] at hP0 hK0 hsp h9 c0 c1 HS hkl hsk hsf1 hsf2 ⊢
  have HP := Lib.hid hP0
  have HK := Lib.hid hK0
  obtain ⟨sp, hspe⟩ : ∃ sp, sp = spotF ps k := ⟨_, rfl⟩
  simp only [← hspe] at HS hsp hsk hsf1 hsf2 ⊢
  obtain ⟨B, hJB⟩ := hJ
  have HJ0 : Hid (J pre (W.alloc (.cells #[.slice pa ps.length pc, .slice (some ⟨kb, 0, none⟩) ks.length kc] NdT))) := Lib.hid (hJB _ _ _ none hp (World.grownBy_alloc _ _ _) (fun r e => by cases e))
  have hBx := BlkAt.alloc_new W [.slice pa ps.length pc, .slice (some ⟨kb, 0, none⟩) ks.length kc] NdT
  have hKp := KpN.alloc W hB.size (.cells #[.slice pa ps.length pc, .slice (some ⟨kb, 0, none⟩) ks.length kc] NdT)
  have HBx := Lib.hid (And.intro hBx hKp)
  have HY := Lib.hid hY
  have HN := Lib.hid hN
  have HW0 := Lib.hid hB
  have HKD := Lib.hid hkid
  have HKL := Lib.hid hkl
  have HIH := Lib.hid ih
  have hkpos : (0 : Int) < (ks.length : Int) := by omega
  have hk10 : ks.length ≤ 10 := by omega
  have hspi : (sp : Int) < (ks.length : Int) := by omega
  obtain ⟨hs, hhs⟩ : ∃ hs, hs = hasF ps k := ⟨_, rfl⟩
  rw [← hhs] at HS hsf1 hsf2
  have HSF1 := Lib.hid hsf1
  have HSF2 := Lib.hid hsf2
  obtain ⟨W1, hW1⟩ : ∃ W1, W1 = W.alloc (.cells #[.slice pa ps.length pc, .slice (some ⟨kb, 0, none⟩) ks.length kc] NdT) := ⟨_, rfl⟩
  obtain ⟨bx, hbx⟩ : ∃ bx, bx = W.heap.size := ⟨_, rfl⟩
  have HI : Hid (J pre W1 ∧ BlkAt bx NdT [.slice pa ps.length pc, .slice (some ⟨kb, 0, none⟩) ks.length kc] W1 ∧ KpN w0.heap.size W W1) := Lib.hid ⟨by rw [hW1]; exact HJ0.out, by rw [hW1, hbx]; exact HBx.out.1, by rw [hW1]; exact HBx.out.2⟩
  have HW1 : Hid (W.alloc (.cells #[.slice pa ps.length pc, .slice (some ⟨kb, 0, none⟩) ks.length kc] 70) = W1) := Lib.hid hW1.symm
  have HBE := Lib.hid hbx
  -- the first kid
  have hB1 : Below w0.heap.size w0 W1 := hB.trans HI.out.2.2.1
  have hlen1 : hs = false → pre.length + (t.sfx k d x0).length ≤ N := fun e => by
    have := HSF2.out e
    have h2 := HN.out
    rw [this, List.length_append] at h2
    omega
  have HC1 := Lib.hid (fun e => ih (n - 1) x0 pre W1 hx0o.1 hx0o.2 hB1 HI.out.1 (hlen1 e))
  rw [hW1] at HC1
  have hcK := (Grow.below HK.out hB).cells inCells_len rfl sp hsk
  have hx0' : ks[sp] = x0 := by rw [hx0]; subst hks hspe hps; rfl
  rw [hx0'] at hcK
  have kc0 := hcK 0 _ rfl
  rw [Nat.mul_one, Nat.add_zero] at kc0
  have hkbl : kb < W.heap.size := block_lt_of_cell kc0
  clear hT hJB hY T hP hK hN2 hP0 hN hB hp hok hks hBx hKp hspe hps hhs hkv hK0 hkid hkl ih hsf1 hsf2 hsrt HJ0 HBx hB1 hlen1 hcK hW1 hbx htot hx0 hx0' hx0o
  unfold ptrV
  refine callsIn_of_wp Try.func40 rfl trivial ?_ rfl
  simp only [Try.ntmps40, List.size_toArray, List.length_cons, List.length_nil, Nat.reduceAdd, Nat.reduceSub, Array.replicate_succ, Array.replicate_zero, List.push_toArray, List.append_toArray, List.nil_append, List.cons_append]
  cases hs
  case' true =>
    gi_wp2_with (refine ⟨trivial, ?_⟩; (try refine ⟨fun h => (by cases h), ?_⟩); gi_at_call 32; refine (callsIn_wide.2 HS.out).mono ?_; rintro e w' ⟨rfl, rfl⟩)
    refine ⟨trivial, ?_⟩
    gi_wp2
    rw [HW1.out, ← HBE.out]
    have HStart : Hid (∃ come, come ++ wpost (ks.map (t.sfx k d)) ps sp = total ∧ J (pre ++ come) W1 ∧ BlkAt bx NdT [.slice pa ps.length pc, .slice (some ⟨kb, 0, none⟩) ks.length kc] W1 ∧ KpN w0.heap.size W W1) := Lib.hid ⟨[], (HSF1.out (by simp)).symm, by rw [List.append_nil]; exact HI.out.1, HI.out.2⟩
    clear g0 c0 c1 HS HI HW1 HC1 HSF2
  case' false =>
    gi_wp2_with (first | (refine ⟨trivial, ?_⟩; (try refine ⟨fun h => (by cases h), ?_⟩); gi_at_call 32; refine (callsIn_wide.2 HS.out).mono ?_; clear HS; rintro e w' ⟨rfl, rfl⟩) | (refine ⟨trivial, ?_⟩; (try refine ⟨fun h => (by cases h), ?_⟩); gi_at_call 40; refine (HC1.out (by simp)).mono ?_; clear HC1; rintro e W2 (⟨rfl, hJ2, hk2⟩ | ⟨rfl, q, hq, hx2⟩)))
    rotate_left
    · go_ret
      refine .inr ⟨rfl, q, hq.trans ?_, hx2⟩
      rw [HSF2.out (by simp)]
      exact List.prefix_append _ _
    have HW1' : W.alloc (.cells #[.slice pa ps.length pc, .slice (some ⟨kb, 0, none⟩) ks.length kc] NdT) = W1 := HW1.out
    rw [HW1'] at hk2
    have HStart : Hid (∃ come, come ++ wpost (ks.map (t.sfx k d)) ps sp = total ∧ J (pre ++ come) W2 ∧ BlkAt bx NdT [.slice pa ps.length pc, .slice (some ⟨kb, 0, none⟩) ks.length kc] W2 ∧ KpN w0.heap.size W W2) := Lib.hid ⟨_, (HSF2.out (by simp)).symm, hJ2, hk2.blk HI.out.2.1, HI.out.2.2.trans hk2⟩
    rw [← HBE.out]
    clear g0 c0 c1 HI HW1 HW1' HSF1 hk2 hJ2
  all_goals
    clear kc0 hkbl
    gi_loopw [9] (fun v wr => ∃ (i : Nat) (come : List Pr), v = .int .i64 (i : Int) ∧ i ≤ ps.length ∧ Hid (come ++ wpost (ks.map (t.sfx k d)) ps i = total) ∧ Hid (J (pre ++ come) wr ∧ BlkAt bx NdT [.slice pa ps.length pc, .slice (some ⟨kb, 0, none⟩) ks.length kc] wr ∧ KpN w0.heap.size W wr)) (fun v _ => ps.length - (intOf v).toNat)
    case atStart =>
      obtain ⟨come, h1, h2⟩ := HStart.out
      exact ⟨sp, come, rfl, hsp, Lib.hid h1, Lib.hid h2⟩
    case round =>
      obtain ⟨i, come, rfl, hi, HC, HR⟩ := hrel
      have b0 := HR.out.2.1.cell (i := 0) rfl
      have b1 := HR.out.2.1.cell (i := 1) rfl
      by_cases hlt : i < ps.length
      · have hik : i + 1 < ks.length := by have := HKL.out; omega
        obtain ⟨x, hx⟩ : ∃ x, x = ps[i] := ⟨_, rfl⟩
        obtain ⟨y, hy0⟩ : ∃ y, y = ks[i + 1] := ⟨_, rfl⟩
        have hcx : (come ++ [x]) ++ (t.sfx k d y ++ wpost (ks.map (t.sfx k d)) ps (i + 1)) = total := by
          have := HC.out
          rw [wpost_next _ _ i hlt (by simpa using HKL.out), List.getElem_map, ← hx, ← hy0] at this
          simpa using this
        have hBw := HW0.out.trans HR.out.2.2.1
        obtain ⟨pb, pcap, hpv, _⟩ := HP.out.form (by omega)
        have hGp := Grow.below HP.out hBw
        rw [hpv] at hGp
        simp only [Value.slice.injEq] at hpv
        obtain ⟨rfl, _, rfl⟩ := hpv
        have hcc := hGp.cells prCells_len rfl i hlt
        rw [← hx] at hcc
        have k0 := hcc 0 _ rfl
        have k1 := hcc 1 _ rfl
        rw [Nat.add_zero] at k0
        have hcl : (pre ++ come).length < N := by
          have h1 := congrArg List.length hcx
          have h2 := HN.out
          simp only [List.length_append, List.length_singleton] at h1 ⊢
          omega
        have hcl2 : (pre ++ come ++ [x]).length + (t.sfx k d y).length ≤ N := by
          have h1 := congrArg List.length hcx
          have h2 := HN.out
          simp only [List.length_append, List.length_singleton] at h1 ⊢
          omega
        have hyy := HY.out (n - 1) (pre ++ come) x wr HR.out.1 hcl
        have HCX := Lib.hid hcx
        have hyo := HKD.out (i + 1) hik
        rw [← hy0] at hyo
        have HNX : Hid (∀ W3, J (pre ++ come ++ [x]) W3 → KpN w0.heap.size wr W3 → CallsIn Fence.wide (n - 1) Try.prog 40 #[.pointer (some ⟨m.g, 0, none⟩), .int .i64 (y : Int), .string (bs k), .func (.yield l) #[] #[]] W3 (WSaid w0.heap.size J Jx (pre ++ come ++ [x]) (t.sfx k d y) W3) ∧
            BlkAt bx NdT [.slice (some ⟨pb, 0, none⟩) ps.length pc, .slice (some ⟨kb, 0, none⟩) ks.length kc] W3 ∧ W3.cell? ⟨kb, i + 1, none⟩ = some (.int .i64 (y : Int)) ∧ KpN w0.heap.size W W3) := Lib.hid (fun W3 hJ3 hk3 => by
          refine ⟨HIH.out (n - 1) y (pre ++ come ++ [x]) W3 hyo.1 hyo.2 (hBw.trans hk3.1) hJ3 hcl2, hk3.blk HR.out.2.1, ?_, HR.out.2.2.trans hk3⟩
          have hcK := (Grow.below HK.out (hBw.trans hk3.1)).cells inCells_len rfl (i + 1) hik
          rw [← hy0] at hcK
          have := hcK 0 _ rfl
          rw [Nat.mul_one, Nat.add_zero] at this
          exact this)
        have hil : (i : Int) < (ps.length : Int) := by omega
        have hik1 : (i : Int) + 1 < (ks.length : Int) := by omega
        have hi0 : (0 : Int) ≤ (i : Int) + 1 := by omega
        have hin : ((i : Int) + 1).toNat = i + 1 := by omega
        have hw1 : IntKind.i64.wrap ((i : Int) + 1) = (i : Int) + 1 := IntWalk.i64_in _ (by omega)
        unfold prV at hyy
        obtain ⟨fn, tmps, assign, body, hy, hR⟩ := hyy
        clear hcc hGp hcl hcl2 hcx hBw hyo hx hy0
        gi_wp2
        refine ⟨fun h => (by cases h), hR.mono ?_⟩
        rintro e W3 (⟨rfl, hJ3, hk3⟩ | ⟨rfl, hx3⟩)
        · obtain ⟨hcall, hbx3, k3, hkw3⟩ := HNX.out W3 hJ3 hk3
          have b0 := hbx3.cell (i := 0) rfl
          have b1 := hbx3.cell (i := 1) rfl
          have HCall := Lib.hid hcall
          have HB3 := Lib.hid (And.intro hbx3 hkw3)
          clear hcall hbx3 hkw3 hJ3 hk3 hR hy HNX
          gi_wp2_with (refine ⟨trivial, ?_⟩; (try refine ⟨fun h => (by cases h), ?_⟩); gi_at_call 40; refine HCall.out.mono ?_; clear HCall; rintro e W4 (⟨rfl, hJ4, hk4⟩ | ⟨rfl, q, hq, hx4⟩))
          · have HR4 : Hid (J (pre ++ (come ++ [x] ++ t.sfx k d y)) W4 ∧ BlkAt bx NdT [.slice (some ⟨pb, 0, none⟩) ps.length pc, .slice (some ⟨kb, 0, none⟩) ks.length kc] W4 ∧ KpN w0.heap.size W W4) := Lib.hid ⟨by simpa [List.append_assoc] using hJ4, hk4.blk HB3.out.1, HB3.out.2.trans hk4⟩
            clear hJ4 hk4
            go_roundw
            case rel => exact ⟨i + 1, come ++ [x] ++ t.sfx k d y, by go_num, by omega, Lib.hid (by rw [List.append_assoc]; exact HCX.out), HR4⟩
            case measure => simp [intOf]; omega
          · go_ret
            refine .inr ⟨rfl, come ++ [x] ++ q, ?_, by simpa [List.append_assoc] using hx4⟩
            rw [← HCX.out]
            exact (List.prefix_append_right_inj _).2 (hq.trans (List.prefix_append _ _))
        · gi_wp2
          go_ret
          refine .inr ⟨rfl, come ++ [x], ?_, by rw [← List.append_assoc]; exact hx3⟩
          rw [← HCX.out]
          exact List.prefix_append _ _
      · obtain rfl : i = ps.length := by omega
        gi_wp2
        go_ret
        have hce := HC.out
        rw [wpost_end, List.append_nil] at hce
        exact .inl ⟨rfl, by rw [← hce]; exact HR.out.1, HR.out.2.2⟩
end
end Go.Proofs.Yteoibolompiohaa
