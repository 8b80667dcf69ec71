/- The walks of talk's Parse and ParseAnswer. Printed by gen/genTalF.py. Conditions: as each theorem says. -/
import Derived.Test.YtlcblkmmkphpmaaTalE
namespace Go.Proofs.Ytlcblkmmkphpmaa
open Go.RowKit

theorem results_cell2 {fn : Func} {s u : Tmp} {T : TypeId} (h : fn.results = #[.cell s T, .tmp u]) (tmps : Array Value) (P : Program) (w : World) (p : Addr) (v x : Value) (hp : tmps.getD s undef = .pointer (some p)) (hu : tmps.getD u undef = x) (hl : (loadVar T p).run P w = .ok v w) :
    (results fn tmps).run P w = .ok (.tuple #[v, x]) w := by
  have hp' : tmps[s]?.getD undef = .pointer (some p) := by simpa using hp
  have hu' : tmps[u]?.getD undef = x := by simpa using hu
  unfold results
  simp [h, asAddr, hp', hu', hl]
set_option maxRecDepth 100000 in
theorem pread_any (l : Byt) (w : World) : Calls Try.prog 26 #[.string (bs l)] w fun e w' => ∃ q, e = .returned (.pointer (some ⟨q, 0, none⟩)) ∧ w.heap.size ≤ q ∧ RdAt PackRd q ⟨l, 0⟩ w' ∧ Below w.heap.size w w' := by
  go_enter Try.func26, Try.ntmps26
  go_wp2
  go_ret
  exact ⟨_, rfl, Nat.le_refl _, heap_alloc_new w _, (Below.refl _ w).alloc (Nat.le_refl _) _⟩
/-- The reader stands, and the result's block j. -/
structure P0 (v q j : Nat) (T : TypeId) (r : Rd) (zs : List Value) (w0 w : World) : Prop where
  hs : Tk v q r w
  hj : BlkAt j T zs w
  hb : Below w0.heap.size w0 w
  ho : w0.heap.size ≤ j ∧ j < q ∧ q < v
/-- A thing under way: the reader, the thing's block k, the result's block j; all of them new. -/
structure Pk (v q k j : Nat) (T : TypeId) (r : Rd) (cs zs : List Value) (w0 w : World) : Prop where
  hs : Tk v q r w
  hk : BlkAt k T cs w
  hj : BlkAt j T zs w
  hb : Below w0.heap.size w0 w
  ho : w0.heap.size ≤ j ∧ j < q ∧ q < v ∧ v < k
section
variable {T : TypeId} {v q k j : Nat} {r r' : Rd} {cs zs : List Value} {w0 w w1 : World}
theorem p0_start (zs : List Value) {l : Byt} (hq : (w.alloc (.cells zs.toArray T)).heap.size ≤ q) (hR : RdAt PackRd q ⟨l, 0⟩ w1) (hb : Below (w.alloc (.cells zs.toArray T)).heap.size (w.alloc (.cells zs.toArray T)) w1) :
    P0 w1.heap.size q w.heap.size T ⟨l, 0⟩ zs w (w1.alloc (.cells #[.pointer (some ⟨q, 0, none⟩), .bool false] TRd)) := by
  have a0 := alloc_below w (.cells zs.toArray T)
  have a1 := alloc_below w1 (.cells #[.pointer (some ⟨q, 0, none⟩), .bool false] TRd)
  have hl := (rd_blk hR).lt
  have s0 : (w.alloc (.cells zs.toArray T)).heap.size = w.heap.size + 1 := by simp
  refine ⟨⟨.inl rfl, .inl ⟨BlkAt.alloc_new w1 _ TRd, BlkAt.grew (rd_blk hR) a1⟩⟩, ((BlkAt.alloc_new w zs T).grew hb).grew a1, ?_, ⟨Nat.le_refl _, by omega, hl⟩⟩
  have h1 : Below w.heap.size w w1 := a0.trans (hb.mono (by omega))
  exact h1.trans (a1.mono h1.size)
theorem P0.vq (h : P0 v q j T r zs w0 w) : v ≠ q := by have := h.ho; omega
/-- The first field is in the thing's new block. -/
theorem P0.start (h : P0 v q j T r zs w0 w) (h1 : Tk v q r' w1) (g1 : Gr2 q v w w1) (cs : List Value) : Pk v q w1.heap.size j T r' cs zs w0 (w1.alloc (.cells cs.toArray T)) := by
  have a1 := alloc_below w1 (.cells cs.toArray T)
  have hl := h1.lt
  have ho := h.ho
  have hb := g1.below h.hb (by omega) (by omega)
  exact ⟨h1.grew a1, BlkAt.alloc_new w1 cs T, (g1.blk h.hj (by omega) (by omega)).grew a1, hb.trans (a1.mono hb.size), ⟨ho.1, ho.2.1, ho.2.2, hl.1⟩⟩
theorem Pk.call (h : Pk v q k j T r cs zs w0 w) (hs : Tk v q r' w1) (g : Gr2 q v w w1) : Pk v q k j T r' cs zs w0 w1 :=
  ⟨hs, g.blk h.hk (by have := h.ho; omega) (by have := h.ho; omega), g.blk h.hj (by have := h.ho; omega) (by have := h.ho; omega), g.below h.hb (by have := h.ho; omega) (by have := h.ho; omega), h.ho⟩
theorem Pk.set (h : Pk v q k j T r cs zs w0 w) (o : Nat) (x : Value) : Pk v q k j T r (cs.set o x) zs w0 (w.setCell ⟨k, o, none⟩ x) := by
  have g := grown_set w k o x
  have ho := h.ho
  exact ⟨h.hs.row g (fun e => by have := Option.some.inj e; omega) (fun e => by have := Option.some.inj e; omega), h.hk.set o x, h.hj.grown g (fun e => by have := Option.some.inj e; omega), h.hb.grown g h.hb.size (by intro i hi; simp only [Option.some.injEq] at hi; omega), ho⟩
theorem Pk.end_ (h : Pk v q k j T r cs zs w0 w) (g : w.grownBy w1 (some j)) : Below w0.heap.size w0 w1 :=
  h.hb.grown g h.hb.size (by have := h.ho; intro i hi; simp only [Option.some.injEq] at hi; omega)
variable {α : Type} {T' : TypeId} {n : Nat} {enc : α → List Value} {u : Value} {L : List α}
theorem Pk.row_start (h : Pk v q k j T r cs zs w0 w) (hG : Grow T' n enc w.heap.size u L w1) : Grow T' n enc (k + 1) u L w1 := hG.mono (by have := h.hk.lt; omega)
theorem Pk.row_call (h : Pk v q k j T r cs zs w0 w) (hG : Grow T' n enc (k + 1) u L w) (g : Gr2 q v w w1) : Grow T' n enc (k + 1) u L w1 := g.grow hG (by have := h.ho; omega) (by have := h.ho; omega)
theorem Pk.row_end (h : Pk v q k j T r cs zs w0 w) (hG : Grow T' n enc (k + 1) u L w) (g : w.grownBy w1 (some j)) : Grow T' n enc w0.heap.size u L w1 := (hG.kept1 g (by have := h.ho; omega)).mono (by have := h.ho; omega)
end
def KvAll2 (base : Nat) (D : List (Ans × Value)) (w : World) : Prop := KvAll base D w
theorem cpV_len (x : Cp) : (cpV x).length = 5 := rfl
theorem opV_len (x : Opr) : (opV x).length = 10 := rfl
theorem kvV_len (x : Kvr) : (kvV x).length = 6 := rfl
theorem anV_len (x : Ans × Value) : (anV x).length = 4 := rfl
theorem bd_ans {r r1 : Rd} {n : List Ans} (hn : anC.list.rd r = (n, r1)) (hl : Bd r) : Bd r1 := bd_any (list_shr anC_shr) hn hl
theorem bd_req {r r1 : Rd} {n : Req} (hn : rqC.rd r = (n, r1)) (hl : Bd r) : Bd r1 := bd_any rqC_shr hn hl
theorem e_cast12 (e : Nat) (h : e ≠ 0) : ((e : Int) == 0) = false := by rw [beq_eq_false_iff_ne]; omega
/-- The cells of what is asked. -/
def askdV (x : Askd) (u1 u2 u3 : Value) : List Value := [.int .i64 x.client, .int .i64 x.seq, .bool x.reads, .int .i64 x.req.kind, u1, u2, u3, .int .i64 x.req.rev, .int .i64 x.req.lease, .int .i64 x.req.ticks, .string (bs x.rg.key), .string (bs x.rg.end_), .int .i64 x.rg.rev, .int .i64 x.rg.limit, .bool x.rg.keys, .bool x.rg.count, .bool x.rg.desc]
def ParseSaid (w : World) (x : Askd) (n : Nat) (e : Ending) (w' : World) : Prop := ∃ u1 u2 u3, e = .returned (.tuple #[.agg (askdV x u1 u2 u3).toArray, .int .i64 (n : Int)]) ∧ RqAt w' x.req u1 u2 u3 ∧ Below w.heap.size w w'
def HearSaid (w : World) (x : Res) (n : Nat) (e : Ending) (w' : World) : Prop := ∃ u D, e = .returned (.tuple #[.agg (rsV x u).toArray, .int .i64 (n : Int)]) ∧ RsAt w' x u D ∧ Below w.heap.size w w'
theorem rows_nil {α : Type} {k : Nat} {enc : α → List Value} (w : World) : RowsAt k enc w (.slice none 0 0) [] := ⟨none, 0, rfl, fun i hi => by simp at hi⟩
theorem parse_no {w w' : World} {n : Nat} (h : Below w.heap.size w w') : ParseSaid w zeroAskd n (.returned (.tuple #[.agg (askdV zeroAskd (.slice none 0 0) (.slice none 0 0) (.slice none 0 0)).toArray, .int .i64 (n : Int)])) w' := ⟨_, _, _, rfl, ⟨rows_nil _, rows_nil _, rows_nil _⟩, h⟩
theorem hear_no {w w' : World} {n : Nat} (h : Below w.heap.size w w') : HearSaid w zeroRes n (.returned (.tuple #[.agg (rsV zeroRes (.slice none 0 0)).toArray, .int .i64 (n : Int)])) w' := ⟨_, [], rfl, ⟨rfl, rows_nil _, by simp⟩, h⟩
set_option maxRecDepth 100000 in
set_option maxHeartbeats 2000000 in
theorem hearW_yes (l : Byt) (hl : l.length ≤ 9223372036854775807) (r1 r2 r3 r4 r5 : Rd) (a0 : Int) (a1 : Int) (a2 : Bool) (a3 : List Ans) (a4 : Int) (e0 : numR ⟨l, 0⟩ = (a0, r1)) (e1 : numR r1 = (a1, r2)) (e2 : flagR r2 = (a2, r3)) (e3 : anC.list.rd r3 = (a3, r4)) (e4 : numR r4 = (a4, r5)) (hz : endR r5 = 0) (w : World) :
    Calls Try.prog 24 #[.string (bs l)] w (HearSaid w ⟨a0, a1, a2, a3, a4⟩ 0) := by
  have l0 : Bd ⟨l, 0⟩ := hl
  have l1 := bd_num e0 l0
  have H0 := Lib.hid (fun v q hvq X hX => tnum_at v q hvq ⟨l, 0⟩ l0 e0 X hX)
  have l2 := bd_num e1 l1
  have H1 := Lib.hid (fun v q hvq X hX => tnum_at v q hvq r1 l1 e1 X hX)
  have l3 := bd_flag e2 l2
  have H2 := Lib.hid (fun v q hvq X hX => tflag_at v q hvq r2 l2 e2 X hX)
  have l4 := bd_ans e3 l3
  have H3 := Lib.hid (fun v q hvq X hX => tans_at v q hvq r3 l3 e3 X hX)
  have H4 := Lib.hid (fun v q hvq X hX => tnum_at v q hvq r4 l4 e4 X hX)
  have HE := Lib.hid (fun v q X hX => tended_any v q r5 X hX)
  rw [hz] at HE
  have HR := Lib.hid (fun X => pread_any l X)
  clear l0 hl l1 l2 l3 l4 e0 e1 e2 e3 e4
  go_enter Try.func24, Try.ntmps24
  go_wp2_with (first
    | (go_at_call 26; (with_reducible refine (HR.out _).mono ?_); rintro e w1 ⟨q, rfl, hq, hR, hb⟩; have hP := p0_start (T := 48) [.int .i64 0, .int .i64 0, .bool false, .slice none 0 0, .int .i64 0] hq hR hb; have HVQ := Lib.hid hP.vq; have HP0 := Lib.hid hP; clear hq hR hb hP)
    | (go_at_call 27; (with_reducible refine (H0.out _ _ HVQ.out _ HP0.out.hs).mono ?_); rintro e w2 ⟨rfl, hs, hg⟩; have HM1 : Hid (Pk w1.heap.size q w2.heap.size w.heap.size 48 r1 [.int .i64 a0, .int .i64 0, .bool false, .slice none 0 0, .int .i64 0] [.int .i64 0, .int .i64 0, .bool false, .slice none 0 0, .int .i64 0] w (w2.alloc (.cells #[.int .i64 a0, .int .i64 0, .bool false, .slice none 0 0, .int .i64 0] 48))) := Lib.hid (HP0.out.start hs hg [.int .i64 a0, .int .i64 0, .bool false, .slice none 0 0, .int .i64 0]); clear hs hg)
    | (go_at_call 27; (with_reducible refine (H1.out _ _ HVQ.out _ HM1.out.hs).mono ?_); rintro e w3 ⟨rfl, hs, hg⟩; have hX := HM1.out.call hs hg; have d1 := BlkAt.cell hX.hk (i := 1) rfl; have f1 := BlkAt.frozen hX.hk 1; have hM : Pk w1.heap.size q w2.heap.size w.heap.size 48 r2 [.int .i64 a0, .int .i64 a1, .bool false, .slice none 0 0, .int .i64 0] [.int .i64 0, .int .i64 0, .bool false, .slice none 0 0, .int .i64 0] w (w3.setCell ⟨w2.heap.size, 1, none⟩ (.int .i64 a1)) := (hX.set 1 (.int .i64 a1)); have HM2 := Lib.hid hM; clear hs hg hM hX)
    | (go_at_call 28; (with_reducible refine (H2.out _ _ HVQ.out _ HM2.out.hs).mono ?_); rintro e w4 ⟨rfl, hs, hg⟩; have hX := HM2.out.call hs hg; have d2 := BlkAt.cell hX.hk (i := 2) rfl; have f2 := BlkAt.frozen hX.hk 2; have hM : Pk w1.heap.size q w2.heap.size w.heap.size 48 r3 [.int .i64 a0, .int .i64 a1, .bool a2, .slice none 0 0, .int .i64 0] [.int .i64 0, .int .i64 0, .bool false, .slice none 0 0, .int .i64 0] w (w4.setCell ⟨w2.heap.size, 2, none⟩ (.bool a2)) := (hX.set 2 (.bool a2)); have HM3 := Lib.hid hM; clear hs hg hM hX)
    | (go_at_call 55; (with_reducible refine (H3.out _ _ HVQ.out _ HM3.out.hs).mono ?_); rintro e w5 ⟨u1, rfl, D, hD, hG1, hKV, hs, hg⟩; obtain ⟨b1, c1, rfl⟩ := hG1.slice; have hX := HM3.out.call hs hg; have d3 := BlkAt.cell hX.hk (i := 3) rfl; have f3 := BlkAt.frozen hX.hk 3; have hK : ∀ p ∈ D, Grow KvT 6 kvV (w2.heap.size + 1) p.2 p.1.kvs (w5.setCell ⟨w2.heap.size, 3, none⟩ (.slice b1 D.length c1)) := fun p hp => (Mk.row_set (HM3.out.row_start (hKV p hp)) 3 (.slice b1 D.length c1)); have hR1 := (Mk.row_set (HM3.out.row_start hG1) 3 (.slice b1 D.length c1)); have hM : Pk w1.heap.size q w2.heap.size w.heap.size 48 r4 [.int .i64 a0, .int .i64 a1, .bool a2, .slice b1 D.length c1, .int .i64 0] [.int .i64 0, .int .i64 0, .bool false, .slice none 0 0, .int .i64 0] w (w5.setCell ⟨w2.heap.size, 3, none⟩ (.slice b1 D.length c1)) := (hX.set 3 (.slice b1 D.length c1)); have HM4 := Lib.hid hM; have HR1_4 := Lib.hid hR1; clear hR1; have HK4 := Lib.hid hK; clear hK; have HD := Lib.hid hD; clear hD hKV hG1; clear hs hg hM hX)
    | (go_at_call 27; (with_reducible refine (H4.out _ _ HVQ.out _ HM4.out.hs).mono ?_); rintro e w6 ⟨rfl, hs, hg⟩; have hX := HM4.out.call hs hg; have d4 := BlkAt.cell hX.hk (i := 4) rfl; have f4 := BlkAt.frozen hX.hk 4; have hK : ∀ p ∈ D, Grow KvT 6 kvV (w2.heap.size + 1) p.2 p.1.kvs (w6.setCell ⟨w2.heap.size, 4, none⟩ (.int .i64 a4)) := fun p hp => (Mk.row_set (HM4.out.row_call (HK4.out p hp) hg) 4 (.int .i64 a4)); have hR1 := (Mk.row_set (HM4.out.row_call HR1_4.out hg) 4 (.int .i64 a4)); have hM : Pk w1.heap.size q w2.heap.size w.heap.size 48 r5 [.int .i64 a0, .int .i64 a1, .bool a2, .slice b1 D.length c1, .int .i64 a4] [.int .i64 0, .int .i64 0, .bool false, .slice none 0 0, .int .i64 0] w (w6.setCell ⟨w2.heap.size, 4, none⟩ (.int .i64 a4)) := (hX.set 4 (.int .i64 a4)); have y0 := BlkAt.cell hM.hk (i := 0) rfl; have y1 := BlkAt.cell hM.hk (i := 1) rfl; have y2 := BlkAt.cell hM.hk (i := 2) rfl; have y3 := BlkAt.cell hM.hk (i := 3) rfl; have y4 := BlkAt.cell hM.hk (i := 4) rfl; have HSt : Hid (Stores Try.prog 48 w.heap.size [.int .i64 a0, .int .i64 a1, .bool a2, .slice b1 D.length c1, .int .i64 a4] #[.int .i64 a0, .int .i64 a1, .bool a2, .slice b1 D.length c1, .int .i64 a4] (w6.setCell ⟨w2.heap.size, 4, none⟩ (.int .i64 a4))) := Lib.hid (stores_of hM.hj (by rfl) (by kernel_rfl) (by intro u hu; simp only [List.mem_cons, List.not_mem_nil, or_false] at hu; rcases hu with rfl | rfl | rfl | rfl | rfl <;> rfl)); have HM5 := Lib.hid hM; have HR1_5 := Lib.hid hR1; clear hR1; have HK5 := Lib.hid hK; clear hK; clear hs hg hM hX)
    | (go_at_call 31; (with_reducible refine (HE.out _ _ _ HM5.out.hs).mono ?_); rintro e wy ⟨rfl, rfl⟩; generalize (w6.setCell ⟨w2.heap.size, 4, none⟩ (.int .i64 a4)) = wq at *)
    | ((with_reducible refine HSt.out _ _ _ _ _ ?_ ?_ ?_); exact rfl; exact ⟨_, _, rfl, rfl, rfl⟩; intro wz hk hg; have hld := run_load_blk (P := Try.prog) hk _ Try.underlying48 rfl (by kernel_rfl)))
  exact bodyPost_ret (v := .tuple #[.agg #[.int .i64 a0, .int .i64 a1, .bool a2, .slice b1 D.length c1, .int .i64 a4], .int .i64 0]) (results_cell2 Try.results24 _ _ _ ⟨w.heap.size, 0, none⟩ _ _ (by rfl) (by rfl) hld) rfl ⟨_, D, rfl, ⟨HD.out.symm, (HM5.out.row_end HR1_5.out hg).rows anV_len, fun p hp => (HM5.out.row_end (HK5.out p hp) hg).rows kvV_len⟩, HM5.out.end_ hg⟩
set_option maxRecDepth 100000 in
set_option maxHeartbeats 2000000 in
theorem hearW_no (l : Byt) (hl : l.length ≤ 9223372036854775807) (r1 r2 r3 r4 r5 : Rd) (a0 : Int) (a1 : Int) (a2 : Bool) (a3 : List Ans) (a4 : Int) (e0 : numR ⟨l, 0⟩ = (a0, r1)) (e1 : numR r1 = (a1, r2)) (e2 : flagR r2 = (a2, r3)) (e3 : anC.list.rd r3 = (a3, r4)) (e4 : numR r4 = (a4, r5)) (E : Nat) (hE : endR r5 = E) (hz : E ≠ 0) (w : World) :
    Calls Try.prog 24 #[.string (bs l)] w (HearSaid w zeroRes E) := by
  have l0 : Bd ⟨l, 0⟩ := hl
  have l1 := bd_num e0 l0
  have H0 := Lib.hid (fun v q hvq X hX => tnum_at v q hvq ⟨l, 0⟩ l0 e0 X hX)
  have l2 := bd_num e1 l1
  have H1 := Lib.hid (fun v q hvq X hX => tnum_at v q hvq r1 l1 e1 X hX)
  have l3 := bd_flag e2 l2
  have H2 := Lib.hid (fun v q hvq X hX => tflag_at v q hvq r2 l2 e2 X hX)
  have l4 := bd_ans e3 l3
  have H3 := Lib.hid (fun v q hvq X hX => tans_at v q hvq r3 l3 e3 X hX)
  have H4 := Lib.hid (fun v q hvq X hX => tnum_at v q hvq r4 l4 e4 X hX)
  have HE := Lib.hid (fun v q X hX => tended_any v q r5 X hX)
  rw [hE] at HE
  have hz0 := e_cast12 E hz
  obtain ⟨z, hZ⟩ : ∃ z : Int, z = (E : Int) := ⟨_, rfl⟩
  rw [← hZ] at HE hz0
  have HZ := Lib.hid hZ
  clear hz hZ hE
  have HR := Lib.hid (fun X => pread_any l X)
  clear l0 hl l1 l2 l3 l4 e0 e1 e2 e3 e4
  go_enter Try.func24, Try.ntmps24
  go_wp2_with (first
    | (go_at_call 26; (with_reducible refine (HR.out _).mono ?_); rintro e w1 ⟨q, rfl, hq, hR, hb⟩; have hP := p0_start (T := 48) [.int .i64 0, .int .i64 0, .bool false, .slice none 0 0, .int .i64 0] hq hR hb; have HVQ := Lib.hid hP.vq; have HP0 := Lib.hid hP; clear hq hR hb hP)
    | (go_at_call 27; (with_reducible refine (H0.out _ _ HVQ.out _ HP0.out.hs).mono ?_); rintro e w2 ⟨rfl, hs, hg⟩; have HM1 : Hid (Pk w1.heap.size q w2.heap.size w.heap.size 48 r1 [.int .i64 a0, .int .i64 0, .bool false, .slice none 0 0, .int .i64 0] [.int .i64 0, .int .i64 0, .bool false, .slice none 0 0, .int .i64 0] w (w2.alloc (.cells #[.int .i64 a0, .int .i64 0, .bool false, .slice none 0 0, .int .i64 0] 48))) := Lib.hid (HP0.out.start hs hg [.int .i64 a0, .int .i64 0, .bool false, .slice none 0 0, .int .i64 0]); clear hs hg)
    | (go_at_call 27; (with_reducible refine (H1.out _ _ HVQ.out _ HM1.out.hs).mono ?_); rintro e w3 ⟨rfl, hs, hg⟩; have hX := HM1.out.call hs hg; have d1 := BlkAt.cell hX.hk (i := 1) rfl; have f1 := BlkAt.frozen hX.hk 1; have hM : Pk w1.heap.size q w2.heap.size w.heap.size 48 r2 [.int .i64 a0, .int .i64 a1, .bool false, .slice none 0 0, .int .i64 0] [.int .i64 0, .int .i64 0, .bool false, .slice none 0 0, .int .i64 0] w (w3.setCell ⟨w2.heap.size, 1, none⟩ (.int .i64 a1)) := (hX.set 1 (.int .i64 a1)); have HM2 := Lib.hid hM; clear hs hg hM hX)
    | (go_at_call 28; (with_reducible refine (H2.out _ _ HVQ.out _ HM2.out.hs).mono ?_); rintro e w4 ⟨rfl, hs, hg⟩; have hX := HM2.out.call hs hg; have d2 := BlkAt.cell hX.hk (i := 2) rfl; have f2 := BlkAt.frozen hX.hk 2; have hM : Pk w1.heap.size q w2.heap.size w.heap.size 48 r3 [.int .i64 a0, .int .i64 a1, .bool a2, .slice none 0 0, .int .i64 0] [.int .i64 0, .int .i64 0, .bool false, .slice none 0 0, .int .i64 0] w (w4.setCell ⟨w2.heap.size, 2, none⟩ (.bool a2)) := (hX.set 2 (.bool a2)); have HM3 := Lib.hid hM; clear hs hg hM hX)
    | (go_at_call 55; (with_reducible refine (H3.out _ _ HVQ.out _ HM3.out.hs).mono ?_); rintro e w5 ⟨u1, rfl, D, hD, hG1, hKV, hs, hg⟩; obtain ⟨b1, c1, rfl⟩ := hG1.slice; have hX := HM3.out.call hs hg; have d3 := BlkAt.cell hX.hk (i := 3) rfl; have f3 := BlkAt.frozen hX.hk 3; have hK : ∀ p ∈ D, Grow KvT 6 kvV (w2.heap.size + 1) p.2 p.1.kvs (w5.setCell ⟨w2.heap.size, 3, none⟩ (.slice b1 D.length c1)) := fun p hp => (Mk.row_set (HM3.out.row_start (hKV p hp)) 3 (.slice b1 D.length c1)); have hR1 := (Mk.row_set (HM3.out.row_start hG1) 3 (.slice b1 D.length c1)); have hM : Pk w1.heap.size q w2.heap.size w.heap.size 48 r4 [.int .i64 a0, .int .i64 a1, .bool a2, .slice b1 D.length c1, .int .i64 0] [.int .i64 0, .int .i64 0, .bool false, .slice none 0 0, .int .i64 0] w (w5.setCell ⟨w2.heap.size, 3, none⟩ (.slice b1 D.length c1)) := (hX.set 3 (.slice b1 D.length c1)); have HM4 := Lib.hid hM; have HR1_4 := Lib.hid hR1; clear hR1; have HK4 := Lib.hid hK; clear hK; have HD := Lib.hid hD; clear hD hKV hG1; clear hs hg hM hX)
    | (go_at_call 27; (with_reducible refine (H4.out _ _ HVQ.out _ HM4.out.hs).mono ?_); rintro e w6 ⟨rfl, hs, hg⟩; have hX := HM4.out.call hs hg; have d4 := BlkAt.cell hX.hk (i := 4) rfl; have f4 := BlkAt.frozen hX.hk 4; have hK : ∀ p ∈ D, Grow KvT 6 kvV (w2.heap.size + 1) p.2 p.1.kvs (w6.setCell ⟨w2.heap.size, 4, none⟩ (.int .i64 a4)) := fun p hp => (Mk.row_set (HM4.out.row_call (HK4.out p hp) hg) 4 (.int .i64 a4)); have hR1 := (Mk.row_set (HM4.out.row_call HR1_4.out hg) 4 (.int .i64 a4)); have hM : Pk w1.heap.size q w2.heap.size w.heap.size 48 r5 [.int .i64 a0, .int .i64 a1, .bool a2, .slice b1 D.length c1, .int .i64 a4] [.int .i64 0, .int .i64 0, .bool false, .slice none 0 0, .int .i64 0] w (w6.setCell ⟨w2.heap.size, 4, none⟩ (.int .i64 a4)) := (hX.set 4 (.int .i64 a4)); have y0 := BlkAt.cell hM.hk (i := 0) rfl; have y1 := BlkAt.cell hM.hk (i := 1) rfl; have y2 := BlkAt.cell hM.hk (i := 2) rfl; have y3 := BlkAt.cell hM.hk (i := 3) rfl; have y4 := BlkAt.cell hM.hk (i := 4) rfl; have HSt : Hid (Stores Try.prog 48 w.heap.size [.int .i64 0, .int .i64 0, .bool false, .slice none 0 0, .int .i64 0] #[.int .i64 0, .int .i64 0, .bool false, .slice none 0 0, .int .i64 0] (w6.setCell ⟨w2.heap.size, 4, none⟩ (.int .i64 a4))) := Lib.hid (stores_of hM.hj (by rfl) (by kernel_rfl) (by intro u hu; simp only [List.mem_cons, List.not_mem_nil, or_false] at hu; rcases hu with rfl | rfl | rfl | rfl | rfl <;> rfl)); have HM5 := Lib.hid hM; have HR1_5 := Lib.hid hR1; clear hR1; have HK5 := Lib.hid hK; clear hK; clear hs hg hM hX)
    | (go_at_call 31; (with_reducible refine (HE.out _ _ _ HM5.out.hs).mono ?_); rintro e wy ⟨rfl, rfl⟩; generalize (w6.setCell ⟨w2.heap.size, 4, none⟩ (.int .i64 a4)) = wq at *)
    | ((with_reducible refine HSt.out _ _ _ _ _ ?_ ?_ ?_); exact rfl; exact ⟨_, _, rfl, rfl, rfl⟩; intro wz hk hg; have hld := run_load_blk (P := Try.prog) hk _ Try.underlying48 rfl (by kernel_rfl)))
  exact bodyPost_ret (v := .tuple #[.agg #[.int .i64 0, .int .i64 0, .bool false, .slice none 0 0, .int .i64 0], .int .i64 z]) (results_cell2 Try.results24 _ _ _ ⟨w.heap.size, 0, none⟩ _ _ (by rfl) (by rfl) hld) rfl (by rw [HZ.out]; exact hear_no (HM5.out.end_ hg))
theorem hear_any (l : Byt) (hl : l.length ≤ 9223372036854775807) (w : World) : Calls Try.prog 24 #[.string (bs l)] w (HearSaid w (hearL l).1 (hearL l).2) := by
  obtain ⟨a0, r1, e0⟩ : ∃ a s, numR ⟨l, 0⟩ = (a, s) := ⟨_, _, rfl⟩
  obtain ⟨a1, r2, e1⟩ : ∃ a s, numR r1 = (a, s) := ⟨_, _, rfl⟩
  obtain ⟨a2, r3, e2⟩ : ∃ a s, flagR r2 = (a, s) := ⟨_, _, rfl⟩
  obtain ⟨a3, r4, e3⟩ : ∃ a s, anC.list.rd r3 = (a, s) := ⟨_, _, rfl⟩
  obtain ⟨a4, r5, e4⟩ : ∃ a s, numR r4 = (a, s) := ⟨_, _, rfl⟩
  have hA : rsC.rd ⟨l, 0⟩ = (⟨a0, a1, a2, a3, a4⟩, r5) := iso_rd (pair_rd e0 (pair_rd e1 (pair_rd e2 (pair_rd e3 e4)))) _ _ _ _
  unfold hearL
  rw [hA]
  by_cases hz : endR r5 = 0
  · rw [if_pos hz]
    exact hearW_yes l hl r1 r2 r3 r4 r5 a0 a1 a2 a3 a4 e0 e1 e2 e3 e4 hz w
  · rw [if_neg hz]
    exact hearW_no l hl r1 r2 r3 r4 r5 a0 a1 a2 a3 a4 e0 e1 e2 e3 e4 _ rfl hz w
end Go.Proofs.Ytlcblkmmkphpmaa
