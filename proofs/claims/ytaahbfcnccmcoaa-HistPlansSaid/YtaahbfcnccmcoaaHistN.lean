/- The law HistPlans, walked. Conditions: as each theorem says. -/
import Derived.Test.YtaahbfcnccmcoaaHistQ
namespace Go.Proofs.Ytaahbfcnccmcoaa
open Go.RowKit

theorem grew_below {w0 w1 W : World} (h : Below w0.heap.size w0 w1) (hW : Grew w1 W) : Below w0.heap.size w0 W := h.trans (Below.mono hW h.size)
theorem step0 {w0 c x : World} (h : Below w0.heap.size w0 c) (k : Below c.heap.size c x) : Below w0.heap.size w0 x := h.trans (k.mono h.size)
theorem step1 {w0 c x : World} {o : Obj} (h : Below w0.heap.size w0 c) (k : Below (c.alloc o).heap.size (c.alloc o) x) : Below w0.heap.size w0 x := (h.alloc h.size o).trans (k.mono (Nat.le_trans h.size (by simp)))
theorem alloc_below (w : World) (o : Obj) : Below w.heap.size w (w.alloc o) := (Below.refl _ _).alloc (Nat.le_refl _) _
theorem fresh_new {c x : World} {cs : Array Value} {t : TypeId} (k : Below (c.alloc (.cells cs t)).heap.size (c.alloc (.cells cs t)) x) : x.heap[c.heap.size]? = some (.cells cs t (0, 0)) := Grew.at_ k (heap_alloc_new c _)
theorem fresh_old {c x : World} {g : Nat} {ob : Obj} (k : Below c.heap.size c x) (h : c.heap[g]? = some ob) : x.heap[g]? = some ob := Grew.at_ k h
theorem step2 {w0 x : World} {o : Obj} (k : Below (w0.alloc o).drew.heap.size (w0.alloc o).drew x) : Below w0.heap.size w0 x := ((Below.refl _ w0).alloc (Nat.le_refl _) o).drew.trans (k.mono (by show _ ≤ (w0.alloc o).heap.size; simp))
theorem fresh_new2 {c x : World} {cs : Array Value} {t : TypeId} (k : Below (c.alloc (.cells cs t)).drew.heap.size (c.alloc (.cells cs t)).drew x) : x.heap[c.heap.size]? = some (.cells cs t (0, 0)) := Grew.at_ k (heap_alloc_new c _)
theorem fresh_g2 {w0 x : World} {o : Obj} (_k : Below (w0.alloc o).drew.heap.size (w0.alloc o).drew x) : w0.heap.size ≤ w0.heap.size := Nat.le_refl _
theorem store2 {w : World} {g : Nat} {x0 x1 : Value} {t : TypeId} (h : w.heap[g]? = some (.cells #[x0, x1] t (0, 0))) (z : Int × Int) : ((w.setCell ⟨g, 0, none⟩ (.int .i64 z.1)).setCell ⟨g, 1, none⟩ (.int .i64 z.2)).heap[g]? = some (.cells #[.int .i64 z.1, .int .i64 z.2] t (0, 0)) := by
  have g0 := Lib.heap_setCell_same (i := 0) h (.int .i64 z.1)
  have g1 := Lib.heap_setCell_same (i := 1) g0 (.int .i64 z.2)
  exact g1
theorem ents_set2 {w : World} {g : Nat} {x0 x1 : Value} {t : TypeId} {v : Value} {M : List Ent} (hE : EntsAt w v M) (h : w.heap[g]? = some (.cells #[x0, x1] t (0, 0))) (u0 u1 : Value) : EntsAt ((w.setCell ⟨g, 0, none⟩ u0).setCell ⟨g, 1, none⟩ u1) v M := by
  obtain ⟨a, cap, hv, hc⟩ := hE
  refine ⟨a, cap, hv, fun i hi => ?_⟩
  obtain ⟨b, off, ha, c0, c1, c2⟩ := hc i hi
  have hne : b ≠ g := by
    intro e
    subst e
    rw [Lib.cell_of_heap h] at c2
    rw [Array.getElem?_eq_none (by simp)] at c2
    simp at c2
  have key : ∀ (j : Nat), ((w.setCell ⟨g, 0, none⟩ u0).setCell ⟨g, 1, none⟩ u1).cell? ⟨b, j, none⟩ = w.cell? ⟨b, j, none⟩ := fun j =>
    World.cell?_of_block (by rw [Below.heap_setCell _ _ _ _ hne, Below.heap_setCell _ _ _ _ hne])
  exact ⟨b, off, ha, by rw [key]; exact c0, by rw [key]; exact c1, by rw [key]; exact c2⟩
theorem plan_len (L : List Ent) (begin last : Int × Int) (k : Int) (z : Int × Int) (M : List Ent) (h : planP L begin last = (k, z, M)) : M.length ≤ L.length := by
  unfold planP at h
  split at h
  · cases h; simp
  · split at h
    · cases h; exact Nat.le_refl _
    · split at h
      · cases h; simp
      · cases h; simp
theorem fresh_g {w0 c x : World} {o : Obj} (h : Below w0.heap.size w0 c) (_k : Below (c.alloc o).heap.size (c.alloc o) x) : w0.heap.size ≤ c.heap.size := h.size
theorem set2 {w0 c : World} {g : Nat} (h : Below w0.heap.size w0 c) (hg : w0.heap.size ≤ g) (z : Int × Int) : Below w0.heap.size w0 ((c.setCell ⟨g, 0, none⟩ (.int .i64 z.1)).setCell ⟨g, 1, none⟩ (.int .i64 z.2)) := (h.setCell (p := ⟨g, 0, none⟩) hg _).setCell (p := ⟨g, 1, none⟩) hg _
theorem fresh0 {x : World} {g : Nat} {a b : Value} {t : TypeId} (h : x.heap[g]? = some (.cells #[a, b] t (0, 0))) : x.cell? ⟨g, 0, none⟩ = some a := by rw [Lib.cell_of_heap h]; rfl
theorem fresh1 {x : World} {g : Nat} {a b : Value} {t : TypeId} (h : x.heap[g]? = some (.cells #[a, b] t (0, 0))) : x.cell? ⟨g, 1, none⟩ = some b := by rw [Lib.cell_of_heap h]; rfl
theorem few_bodies (L : List Ent) (h : fewE L = true) : ∀ x ∈ L, x.b.length ≤ 1000 := by
  unfold fewE at h
  rw [Bool.and_eq_true, List.all_eq_true] at h
  exact fun x hx => of_decide_eq_true (h.2 x hx)
theorem plan_mem (L : List Ent) (begin last : Int × Int) (k : Int) (z : Int × Int) (M : List Ent) (h : planP L begin last = (k, z, M)) : ∀ x ∈ M, x ∈ L := by
  unfold planP at h
  split at h
  · cases h; exact fun x hx => List.mem_of_mem_drop hx
  · split at h
    · cases h; exact fun x hx => hx
    · split at h
      · cases h; exact fun x hx => List.mem_of_mem_drop hx
      · cases h; exact fun x hx => List.mem_of_mem_drop hx
theorem row_bump {w : World} {base g n c : Nat} {M : List Ent} (hown : w.ownsRow base 28 3 (.slice (some ⟨g, 0, none⟩) n c) n (entRow M)) (i : Nat) (hi : i < M.length) (hl : M.length = n) (hb : ∀ x ∈ M, x.b.length ≤ 1000 + i) :
    ∃ (x : Ent) (M2 : List Ent), x ∈ M ∧ x.b.length ≤ 1000 + i ∧ M2.length = n ∧ w.cell? ⟨g, i * 3, none⟩ = some (.int .i64 x.e) ∧ w.cell? ⟨g, i * 3 + 2, none⟩ = some (.string (bs x.b)) ∧ w.frozen? ⟨g, i * 3 + 2, none⟩ = false ∧ ((∀ y ∈ M2, y.b.length ≤ 1000 + (i + 1)) ∧
      (w.setCell ⟨g, i * 3 + 2, none⟩ (.string (bs x.b ++ bs [120]))).ownsRow base 28 3 (.slice (some ⟨g, 0, none⟩) n c) n (entRow M2)) := by
  obtain ⟨M2, h1, h2, h3⟩ := entRow_set M i (M[i].b ++ [120]) hi
  have hm := List.getElem_mem hi
  have hbi := hb _ hm
  refine ⟨M[i], M2, hm, hbi, by omega, ?_, ?_, hown.frozenAt _, fun y hy => ?_, ?_⟩
  · rw [show i * 3 = i * 3 + 0 from rfl, hown.cellAt _ (by omega), entRow_get M i 0 hi (by omega)]; rfl
  · rw [hown.cellAt _ (by omega), entRow_get M i 2 hi (by omega)]; rfl
  · rcases h3 y hy with h | h
    · have := hb y h; omega
    · rw [h, List.length_append]; simp; omega
  · rw [bs_append, ← h2]
    exact (hown.stored (i * 3 + 2) _).1
set_option maxRecDepth 100000 in
set_option maxHeartbeats 6400000 in
theorem plans_any (L : List Ent) (a : Option Addr) (cap : Nat) (begin last : Int × Int) (w : World) (hL : EntsAt w (.slice a L.length cap) L) (hlc : L.length ≤ cap) (hn : L.length ≤ maxLen) (hs : ∀ x ∈ L, x.ok) :
    Calls Try.prog 3 #[.slice a L.length cap, zxidV begin, zxidV last] w fun e w' => e = .returned (.bool true) ∧ Below w.heap.size w w' := by
  unfold maxLen at hn
  have Hb1 := Lib.hid (((Below.refl _ w).alloc (Nat.le_refl _) (.cells #[.int .i64 begin.1, .int .i64 begin.2] 24)).alloc (by simp) (.cells #[.int .i64 last.1, .int .i64 last.2] 24))
  have Hk0 := Lib.hid (Grew.at_ ((Below.refl _ _).alloc (Nat.le_refl _) (.cells #[.int .i64 last.1, .int .i64 last.2] 24)) (heap_alloc_new w (.cells #[.int .i64 begin.1, .int .i64 begin.2] 24)))
  have Hk1 : (((w.alloc (.cells #[.int .i64 begin.1, .int .i64 begin.2] 24)).alloc (.cells #[.int .i64 last.1, .int .i64 last.2] 24)).heap[w.heap.size + 1]? = some (.cells #[.int .i64 last.1, .int .i64 last.2] 24 (0, 0))) := by
    have := heap_alloc_new (w.alloc (.cells #[.int .i64 begin.1, .int .i64 begin.2] 24)) (.cells #[.int .i64 last.1, .int .i64 last.2] 24)
    simpa using this
  have Hk1 := Lib.hid Hk1
  have HF := Lib.hid (fun w2 h2 => (few_any L a cap w2 h2 hn hs).mono (R' := fun e w' => e = .returned (.bool (fewE L)) ∧ Below w2.heap.size w2 w') (fun _ _ ⟨x, y⟩ => ⟨x, by rw [y]; exact Below.refl _ _⟩))
  have HR := Lib.hid (fun w2 h2 => right_any L a cap w2 h2 hn)
  have HZ := Lib.hid (fun x w2 => z_any x w2)
  have HPl0 := Lib.hid (fun k z M hp h6 w2 h2 => plan_own L a cap begin last z k M hp w2 h2 h6 hlc)
  have HLL0 := Lib.hid (fun h6 w2 h2 => l_at L a cap w2 h2 h6)
  have HO := Lib.hid (fun w2 (h : Below w.heap.size w w2) => hL.grew h)
  generalize hw1 : (w.alloc (.cells #[.int .i64 begin.1, .int .i64 begin.2] 24)).alloc (.cells #[.int .i64 last.1, .int .i64 last.2] 24) = w1 at Hb1 Hk0 Hk1
  have HW1 := Lib.hid hw1
  clear hw1
  have b0 : w1.cell? ⟨w.heap.size, 0, none⟩ = some (.int .i64 begin.1) := by rw [Lib.cell_of_heap Hk0.out]; rfl
  have b1 : w1.cell? ⟨w.heap.size, 1, none⟩ = some (.int .i64 begin.2) := by rw [Lib.cell_of_heap Hk0.out]; rfl
  unfold zxidV
  go_enter Try.func3, Try.ntmps3
  go_upto_region 1 with (fail)
  rw [HW1.out]
  by_cases hf : fewE L = true
  · rw [hf] at HF
    have h200 := few_len L hf
    have hbodL := Lib.hid (few_bodies L hf)
    by_cases hr : rightL (0, 0) L = true
    · rw [hr] at HR
      by_cases h0 : L.length = 0
      · have hd : L.length ≤ 0 := by omega
        have hd2 : decide (0 < L.length) = false := decide_eq_false (by omega)
        have hlaw := plan_law L begin last hr (fun h => absurd h (by omega))
        clear hf h0 hr
        go_wp2_with (fail)
        have hex := Grew.all w1
        refine wp_region_grew (by kernel_rfl) (by kernel_rfl) ?_
        repeat (first | go_big_quiet_skip | (go_big_quiet_want; first | (refine fail ?_; simp only [Act.put, List.setIfInBounds_toArray, List.set_cons_succ, List.set_cons_zero]; go_big_quiet_on) | (go_big_quiet_op; first | go_big_quiet_on | (apply Exists.intro; refine ⟨fun W hW => ?_, ?_⟩; (first | exact rfl | (go_at_call 12; with_reducible exact Calls.grew hW (HF.out _ (HO.out _ (grew_below Hb1.out hW)))) | (go_at_call 13; with_reducible exact Calls.grew hW (HR.out _ (HO.out _ (grew_below Hb1.out hW)))) | (go_at_call 14; with_reducible exact Calls.grew hW (HLs.out _))); go_big_quiet_on))))
        refine wpQuiet_nil ?_
        intro w3 hw4
        have Hb3 := Lib.hid (Hb1.out.trans (Below.mono (show Below w1.heap.size w1 w3 from hw4) Hb1.out.size))
        clear hex
        as_aux_lemma =>
        have Hk0 := Lib.hid (Grew.at_ hw4 Hk0.out)
        have Hk1 := Lib.hid (Grew.at_ hw4 Hk1.out)
        have b0 : w3.cell? ⟨w.heap.size, 0, none⟩ = some (.int .i64 begin.1) := by rw [Lib.cell_of_heap Hk0.out]; rfl
        have b1 : w3.cell? ⟨w.heap.size, 1, none⟩ = some (.int .i64 begin.2) := by rw [Lib.cell_of_heap Hk0.out]; rfl
        have l0 : w3.cell? ⟨w.heap.size + 1, 0, none⟩ = some (.int .i64 last.1) := by rw [Lib.cell_of_heap Hk1.out]; rfl
        have l1 : w3.cell? ⟨w.heap.size + 1, 1, none⟩ = some (.int .i64 last.2) := by rw [Lib.cell_of_heap Hk1.out]; rfl
        have Hk03 := Hk0
        have Hk13 := Hk1
        clear hw4 hd hd2
        obtain ⟨k, z, M, hp⟩ : ∃ k z M, planP L begin last = (k, z, M) := ⟨_, _, _, rfl⟩
        have hML := plan_len L begin last k z M hp
        have hbod : Hid (∀ x ∈ M, x.b.length ≤ 1000 + 0) := fun x hx => hbodL.out x (plan_mem L begin last k z M hp x hx)
        have HPl := Lib.hid (HPl0.out k z M hp (by omega))
        have HRPl := Lib.hid (fun a2 c2 w2 h2 h3 => refplan_own L a2 c2 begin last z k M (hlaw.symm.trans hp) w2 h2 (by omega) h3)
        have HLL := Lib.hid (HLL0.out (by omega))
        clear hlaw hp HF HR HPl0 HLL0
        go_wp2_with (fail)
        refine (HPl.out w3 (HO.out _ Hb3.out)).mono ?_
        rintro e w4 ⟨am, cm, rfl, hlm, hownm, hEm, hb4⟩
        have Hb4 := Lib.hid (Hb3.out.trans (hb4.mono Hb3.out.size))
        have Hk0 := Lib.hid (Grew.at_ hb4 Hk0.out)
        have Hk1 := Lib.hid (Grew.at_ hb4 Hk1.out)
        have Hb43 := Lib.hid hb4
        clear b0 b1 l0 l1 hb4
        obtain ⟨w5, hw5⟩ : ∃ x, x = w4.alloc (.cells #[.int .i64 z.1, .int .i64 z.2] 24) := ⟨_, rfl⟩
        have HW5 := Lib.hid hw5
        have hb45 : Below w4.heap.size w4 w5 := by rw [hw5]; exact (Below.refl _ _).alloc (Nat.le_refl _) _
        have hkz : w5.heap[w4.heap.size]? = some (.cells #[.int .i64 z.1, .int .i64 z.2] 24 (0, 0)) := by rw [hw5]; exact heap_alloc_new _ _
        have hz45 : w5.heap.size = w4.heap.size + 1 := by rw [hw5]; simp
        clear hw5
        have Hkz := Lib.hid hkz
        have Hz45 := Lib.hid hz45
        have Hb53 := Lib.hid (Hb43.out.trans (hb45.mono Hb43.out.size))
        have Hb5 := Lib.hid (Hb4.out.trans (hb45.mono Hb4.out.size))
        have Hk0 := Lib.hid (Grew.at_ hb45 Hk0.out)
        have Hk1 := Lib.hid (Grew.at_ hb45 Hk1.out)
        have hownm := own_below hownm hb45
        have Hownm := Lib.hid hownm
        have HEm := Lib.hid (hEm.grew hb45)
        clear hkz hz45 hb45 hownm hEm
        have b0 : w5.cell? ⟨w.heap.size, 0, none⟩ = some (.int .i64 begin.1) := by rw [Lib.cell_of_heap Hk0.out]; rfl
        have b1 : w5.cell? ⟨w.heap.size, 1, none⟩ = some (.int .i64 begin.2) := by rw [Lib.cell_of_heap Hk0.out]; rfl
        have l0 : w5.cell? ⟨w.heap.size + 1, 0, none⟩ = some (.int .i64 last.1) := by rw [Lib.cell_of_heap Hk1.out]; rfl
        have l1 : w5.cell? ⟨w.heap.size + 1, 1, none⟩ = some (.int .i64 last.2) := by rw [Lib.cell_of_heap Hk1.out]; rfl
        have hB : Below w5.heap.size w5 w5.drew := (Below.refl _ w5).drew
        go_upto_region 4 with (fail)
        rw [← HW5.out]
        go_cut [10, 11, 12] (fun s10 s11 s12 wx => ∃ g ao co, s10 = .int .i64 k ∧ s11 = .pointer (some ⟨g, 0, none⟩) ∧ s12 = .slice ao M.length co ∧ wx.heap[g]? = some (.cells #[.int .i64 z.1, .int .i64 z.2] 32 (0, 0)) ∧ EntsAt wx (.slice ao M.length co) M ∧ Below w5.heap.size w5 wx)
        case first =>
          go_region_held3 (fun w' => w'.cell? ⟨w.heap.size, 0, none⟩ = some (.int .i64 begin.1) ∧ w'.cell? ⟨w.heap.size, 1, none⟩ = some (.int .i64 begin.2) ∧ w'.cell? ⟨w.heap.size + 1, 0, none⟩ = some (.int .i64 last.1) ∧ w'.cell? ⟨w.heap.size + 1, 1, none⟩ = some (.int .i64 last.2)) (first | exact ⟨Grew.cell hB b0, Grew.cell hB b1, Grew.cell hB l0, Grew.cell hB l1⟩ | (have hC := hB.alloc hB.size (.cells #[.int .i64 z.1, .int .i64 z.2] 32); exact ⟨Grew.cell hC b0, Grew.cell hC b1, Grew.cell hC l0, Grew.cell hC l1⟩) | (have hC := hB.alloc hB.size (.cells #[.int .i64 0, .int .i64 0] 32); exact ⟨Grew.cell hC b0, Grew.cell hC b1, Grew.cell hC l0, Grew.cell hC l1⟩) | (have hC := set2 hB hg z; exact ⟨Grew.cell hC b0, Grew.cell hC b1, Grew.cell hC l0, Grew.cell hC l1⟩) | go_keep) (first | (go_at_call 18; (with_reducible refine (HLL.out _ (by first | exact HO.out _ (Hb5.out.trans (hB.mono Hb5.out.size)) | exact HO.out _ ((Hb5.out.trans (hB.mono Hb5.out.size)).alloc (Nat.le_trans Hb5.out.size hB.size) _) | exact HO.out _ (Hb5.out.alloc Hb5.out.size _).drew)).mono ?_); rintro e wX ⟨aL, cL, rfl, hcL, hEL, hbX⟩; (try have hg := (by first | exact fresh_g hB hbX | exact fresh_g2 hbX)); have hB := (by first | exact step0 hB hbX | exact step1 hB hbX | exact step2 hbX); (try (have hN := (by first | exact fresh_new hbX | exact fresh_new2 hbX); have n0 := fresh0 hN; have n1 := fresh1 hN; have nf := fun i => Lib.frozen_of_heap hN i))) | (go_at_call 19; (with_reducible refine (HZ.out _ _).mono ?_); rintro e wX ⟨rfl, hbX⟩; (try have hg := (by first | exact fresh_g hB hbX | exact fresh_g2 hbX)); have hB := (by first | exact step0 hB hbX | exact step1 hB hbX | exact step2 hbX); (try have hEL := (by first | exact hEL.grew hbX | exact (hEL.grew (alloc_below _ _)).grew hbX)); (try (have hN := (by first | exact fresh_old hbX hN | exact fresh_new hbX); have n0 := fresh0 hN; have n1 := fresh1 hN; have nf := fun i => Lib.frozen_of_heap hN i))) | (go_at_call 17; (with_reducible refine (HRPl.out aL cL _ (by first | exact hEL | exact hEL.grew (alloc_below _ _)) hcL).mono ?_); rintro e wX ⟨ao, co, rfl, hEo, hbX⟩; (try have hg := (by first | exact fresh_g hB hbX | exact fresh_g2 hbX)); have hB := (by first | exact step0 hB hbX | exact step1 hB hbX | exact step2 hbX); (try (have hN := (by first | exact fresh_old hbX hN | exact fresh_new hbX); have n0 := fresh0 hN; have n1 := fresh1 hN; have nf := fun i => Lib.frozen_of_heap hN i))))
          all_goals
            go_wp2_with fail
            go_meet
            first | exact ⟨_, _, _, rfl, rfl, rfl, heap_alloc_new _ _, hEo.grew (alloc_below _ _), hB.alloc hB.size _⟩ | exact ⟨_, _, _, rfl, rfl, rfl, store2 hN z, ents_set2 hEo hN _ _, set2 hB hg z⟩
        case rest =>
          obtain ⟨g, ao, co, rfl, rfl, rfl, hkg, hEo, hbc⟩ := hcut
          have Hkg := Lib.hid hkg
          have HEo := Lib.hid hEo
          have Hb6 := Lib.hid (Hb5.out.trans (hbc.mono Hb5.out.size))
          have Hb63 := Lib.hid (Hb53.out.trans (hbc.mono Hb53.out.size))
          have Hkz := Lib.hid (Grew.at_ hbc Hkz.out)
          have Hk0 := Lib.hid (Grew.at_ hbc Hk0.out)
          have Hk1 := Lib.hid (Grew.at_ hbc Hk1.out)
          have HEm := Lib.hid (HEm.out.grew hbc)
          have Hownm := Lib.hid (own_below Hownm.out hbc)
          have HLm := Lib.hid (fun a2 c2 w2 h2 => l_at M a2 c2 w2 h2 (by omega))
          clear b0 b1 l0 l1 hB hkg hEo hbc
          have z0 := fresh0 Hkz.out
          have z1 := fresh1 Hkz.out
          have g0 := fresh0 Hkg.out
          have g1 := fresh1 Hkg.out
          have hB : Below wc.heap.size wc wc.drew := (Below.refl _ wc).drew
          have HSE := Lib.hid (fun a1 c1 a2 c2 w2 h2 h3 => sameents_any M M a1 a2 c1 c2 w2 h2 h3 (by omega) (by omega))
          rw [show sameE M M = true from decide_eq_true rfl] at HSE
          go_wp2_with fail
          go_region_held3 (fun w' => w'.cell? ⟨w4.heap.size, 0, none⟩ = some (.int .i64 z.1) ∧ w'.cell? ⟨w4.heap.size, 1, none⟩ = some (.int .i64 z.2) ∧ w'.cell? ⟨g, 0, none⟩ = some (.int .i64 z.1) ∧ w'.cell? ⟨g, 1, none⟩ = some (.int .i64 z.2)) (first | exact ⟨Grew.cell hB z0, Grew.cell hB z1, Grew.cell hB g0, Grew.cell hB g1⟩ | go_keep) (first | (go_at_call 19; (with_reducible refine (HZ.out _ _).mono ?_); rintro e wX ⟨rfl, hbX⟩; have hB := step0 hB hbX; (try have hEL := hEL.grew hbX)) | (go_at_call 18; (with_reducible refine (HLm.out _ _ _ (HEm.out.grew hB)).mono ?_); rintro e wX ⟨aL, cL, rfl, hcL, hEL, hbX⟩; have hB := step0 hB hbX) | (go_at_call 20; (with_reducible refine (HSE.out aL cL ao co _ hEL (HEo.out.grew hB)).mono ?_); rintro e wX ⟨rfl, hbX⟩; have hB := step0 hB hbX))
          all_goals
            have Hownm := Lib.hid (own_below Hownm.out hB)
            have Hb7 := Lib.hid (Hb63.out.trans (hB.mono Hb63.out.size))
            clear hB hEL hbX hcL z0 z1 g0 g1
            go_wp2_with fail
            go_loopw [13] (fun vi wr => ∃ (i : Nat) (M' : List Ent), vi = .int .i64 (i : Int) ∧ i ≤ M.length ∧ M'.length = M.length ∧ (∀ x ∈ M', x.b.length ≤ 1000 + i) ∧ wr.ownsRow w3.heap.size 28 3 (.slice am M.length cm) M.length (entRow M') ∧ Below w3.heap.size w3 wr) (fun vi _ => M.length - (intOf vi).toNat)
            case atStart => exact ⟨0, M, rfl, by omega, rfl, hbod.out, Hownm.out, Hb7.out⟩
            case round =>
              obtain ⟨i, M', rfl, hi, hlM, hbo, hown, hbr⟩ := hrel
              have HlM := Lib.hid hlM
              have Hbo := Lib.hid hbo
              have Hown := Lib.hid hown
              clear hlM hbo hown
              by_cases h : i < M.length
              · as_aux_lemma =>
                obtain ⟨g', ham⟩ : ∃ g', am = some ⟨g', 0, none⟩ := by
                  rcases Hown.out.2 with ⟨_, h0⟩ | ⟨g', c', cur, hv, _⟩
                  · omega
                  · simp only [Value.slice.injEq] at hv
                    exact ⟨g', hv.1⟩
                subst ham
                obtain ⟨x, M2, hx, hlx, hl2, hc0, hc2, hf2, hrow⟩ := row_bump Hown.out i (by rw [HlM.out]; exact h) HlM.out Hbo.out
                have hg3 := (Hown.out.lt g' rfl).1
                have Hrow := Lib.hid hrow
                have Hl2 := Lib.hid hl2
                have hsz : (bs x.b).size + 1 ≤ 9223372036854775807 := by rw [bs_size]; omega
                have hB2 := Lib.hid (hbr.setCell (p := ⟨g', i * 3 + 2, none⟩) hg3 (.string (bs x.b ++ bs [120])))
                clear hrow hl2 hx
                go_wp2
                go_roundw
                case rel => exact ⟨i + 1, M2, by go_num, by omega, Hl2.out, Hrow.out.1, Hrow.out.2, hB2.out⟩
                case measure => simp [intOf]; omega
              · as_aux_lemma =>
                have Hbw := Lib.hid (Hb3.out.trans (hbr.mono Hb3.out.size))
                have Hk0 := Grew.at_ hbr Hk03.out
                have Hk1 := Grew.at_ hbr Hk13.out
                have b0 := fresh0 Hk0
                have b1 := fresh1 Hk0
                have l0 := fresh0 Hk1
                have l1 := fresh1 Hk1
                have hB : Below wr.heap.size wr wr.drew := (Below.refl _ wr).drew
                clear Hk0 Hk1
                go_wp2_with fail
                go_region_held3 (fun w' => w'.cell? ⟨w.heap.size, 0, none⟩ = some (.int .i64 begin.1) ∧ w'.cell? ⟨w.heap.size, 1, none⟩ = some (.int .i64 begin.2) ∧ w'.cell? ⟨w.heap.size + 1, 0, none⟩ = some (.int .i64 last.1) ∧ w'.cell? ⟨w.heap.size + 1, 1, none⟩ = some (.int .i64 last.2)) (first | exact ⟨Grew.cell hB b0, Grew.cell hB b1, Grew.cell hB l0, Grew.cell hB l1⟩ | go_keep) (first | (go_at_call 18; (with_reducible refine (HLL.out _ (HO.out _ (Hbw.out.trans (hB.mono Hbw.out.size)))).mono ?_); rintro e wX ⟨aL, cL, rfl, hcL, hEL, hbX⟩; have hB := step0 hB hbX) | (go_at_call 19; (with_reducible refine (HZ.out _ _).mono ?_); rintro e wX ⟨rfl, hbX⟩; have hB := step0 hB hbX; (try have hEL := hEL.grew hbX)) | (go_at_call 17; (with_reducible refine (HRPl.out aL cL _ hEL hcL).mono ?_); rintro e wX ⟨ao2, co2, rfl, hEo2, hbX⟩; have hB := step0 hB hbX))
                all_goals
                  have Hb8 := Lib.hid (Hbw.out.trans (hB.mono Hbw.out.size))
                  have HEo2 := Lib.hid hEo2
                  have b0 := Grew.cell hB b0
                  have b1 := Grew.cell hB b1
                  have l0 := Grew.cell hB l0
                  have l1 := Grew.cell hB l1
                  clear hEL hbX hB hEo2
                  go_wp2_with fail
                  refine (HPl.out _ (HO.out _ Hb8.out)).mono ?_
                  rintro e w9 ⟨am2, cm2, rfl, hlm2, _, hEm2, hb9⟩
                  have HEo2 := HEo2.out.grew hb9
                  have Hb9 := Lib.hid (Hb8.out.trans (hb9.mono Hb8.out.size))
                  have HEo2 := Lib.hid HEo2
                  have HEm2 := Lib.hid hEm2
                  clear hb9 hEm2
                  go_wp2_with fail
                  refine (HLm.out _ _ _ HEm2.out).mono ?_
                  rintro e w10 ⟨a10, c10, rfl, hc10, hE10, hb10⟩
                  have HEo2 := Lib.hid (HEo2.out.grew hb10)
                  have Hb10 := Lib.hid (Hb9.out.trans (hb10.mono Hb9.out.size))
                  clear hb10
                  go_wp2_with fail
                  refine (HSE.out _ _ _ _ _ hE10 HEo2.out).mono ?_
                  rintro e w11 ⟨rfl, hb11⟩
                  have Hb11 := Lib.hid (Hb10.out.trans (hb11.mono Hb10.out.size))
                  clear hb11 hE10
                  go_wp2_with fail
                  refine (awake_any _).mono ?_
                  rintro e w12 ⟨rfl, hb12⟩
                  go_wp2
                  go_ret
                  exact ⟨rfl, Hb11.out.trans (hb12.mono Hb11.out.size)⟩

      · have hd : 0 < L.length := by omega
        have hd2 : decide (0 < L.length) = true := decide_eq_true hd
        obtain ⟨bb, off, rfl, x0, x1, x2⟩ := ents_get (HO.out w1 Hb1.out) 0 hd
        rw [Nat.zero_mul, Nat.add_zero] at x0 x1
        have HLs := Lib.hid (fun w2 => less_any begin L[0].z w2)
        have hlaw0 := fun hb => plan_law L begin last hr hb
        clear x2
        generalize hgx : L[0] = x at *
        unfold zxidV Ent.z at HLs
        by_cases hl : lessZ begin (x.e, x.c) = true
        · rw [hl] at HLs
          have hlaw := hlaw0 (fun _ => (by rw [hgx]; exact hl))
          clear hf h0 hr hl hlaw0 hgx
          go_wp2_with (fail)
          have hex := Grew.all w1
          refine wp_region_grew (by kernel_rfl) (by kernel_rfl) ?_
          repeat (first | go_big_quiet_skip | (go_big_quiet_want; first | (refine quiet_load_mid 24 _ rfl _ _ rfl [.int .i64 begin.1, .int .i64 begin.2] _ (fun W hW => range2 (Grew.cell hW b0) (Grew.cell hW b1)) Try.underlying24 rfl (by kernel_rfl) ?_; simp only [Act.put, List.setIfInBounds_toArray, List.set_cons_succ, List.set_cons_zero]; go_big_quiet_on) | (refine quiet_load_mid 24 _ rfl _ _ rfl [.int .i64 x.e, .int .i64 x.c] _ (fun W hW => range2 (Grew.cell hW x0) (Grew.cell hW x1)) Try.underlying24 rfl (by kernel_rfl) ?_; simp only [Act.put, List.setIfInBounds_toArray, List.set_cons_succ, List.set_cons_zero]; go_big_quiet_on) | (go_big_quiet_op; first | go_big_quiet_on | (apply Exists.intro; refine ⟨fun W hW => ?_, ?_⟩; (first | exact rfl | (go_at_call 12; with_reducible exact Calls.grew hW (HF.out _ (HO.out _ (grew_below Hb1.out hW)))) | (go_at_call 13; with_reducible exact Calls.grew hW (HR.out _ (HO.out _ (grew_below Hb1.out hW)))) | (go_at_call 14; with_reducible exact Calls.grew hW (HLs.out _))); go_big_quiet_on))))
          refine wpQuiet_nil ?_
          intro w3 hw4
          have Hb3 := Lib.hid (Hb1.out.trans (Below.mono (show Below w1.heap.size w1 w3 from hw4) Hb1.out.size))
          clear hex
          as_aux_lemma =>
          have Hk0 := Lib.hid (Grew.at_ hw4 Hk0.out)
          have Hk1 := Lib.hid (Grew.at_ hw4 Hk1.out)
          have b0 : w3.cell? ⟨w.heap.size, 0, none⟩ = some (.int .i64 begin.1) := by rw [Lib.cell_of_heap Hk0.out]; rfl
          have b1 : w3.cell? ⟨w.heap.size, 1, none⟩ = some (.int .i64 begin.2) := by rw [Lib.cell_of_heap Hk0.out]; rfl
          have l0 : w3.cell? ⟨w.heap.size + 1, 0, none⟩ = some (.int .i64 last.1) := by rw [Lib.cell_of_heap Hk1.out]; rfl
          have l1 : w3.cell? ⟨w.heap.size + 1, 1, none⟩ = some (.int .i64 last.2) := by rw [Lib.cell_of_heap Hk1.out]; rfl
          have Hk03 := Hk0
          have Hk13 := Hk1
          clear hw4 hd hd2
          obtain ⟨k, z, M, hp⟩ : ∃ k z M, planP L begin last = (k, z, M) := ⟨_, _, _, rfl⟩
          have hML := plan_len L begin last k z M hp
          have hbod : Hid (∀ x ∈ M, x.b.length ≤ 1000 + 0) := fun x hx => hbodL.out x (plan_mem L begin last k z M hp x hx)
          have HPl := Lib.hid (HPl0.out k z M hp (by omega))
          have HRPl := Lib.hid (fun a2 c2 w2 h2 h3 => refplan_own L a2 c2 begin last z k M (hlaw.symm.trans hp) w2 h2 (by omega) h3)
          have HLL := Lib.hid (HLL0.out (by omega))
          clear hlaw hp HF HR HPl0 HLL0
          go_wp2_with (fail)
          refine (HPl.out w3 (HO.out _ Hb3.out)).mono ?_
          rintro e w4 ⟨am, cm, rfl, hlm, hownm, hEm, hb4⟩
          have Hb4 := Lib.hid (Hb3.out.trans (hb4.mono Hb3.out.size))
          have Hk0 := Lib.hid (Grew.at_ hb4 Hk0.out)
          have Hk1 := Lib.hid (Grew.at_ hb4 Hk1.out)
          have Hb43 := Lib.hid hb4
          clear b0 b1 l0 l1 hb4
          obtain ⟨w5, hw5⟩ : ∃ x, x = w4.alloc (.cells #[.int .i64 z.1, .int .i64 z.2] 24) := ⟨_, rfl⟩
          have HW5 := Lib.hid hw5
          have hb45 : Below w4.heap.size w4 w5 := by rw [hw5]; exact (Below.refl _ _).alloc (Nat.le_refl _) _
          have hkz : w5.heap[w4.heap.size]? = some (.cells #[.int .i64 z.1, .int .i64 z.2] 24 (0, 0)) := by rw [hw5]; exact heap_alloc_new _ _
          have hz45 : w5.heap.size = w4.heap.size + 1 := by rw [hw5]; simp
          clear hw5
          have Hkz := Lib.hid hkz
          have Hz45 := Lib.hid hz45
          have Hb53 := Lib.hid (Hb43.out.trans (hb45.mono Hb43.out.size))
          have Hb5 := Lib.hid (Hb4.out.trans (hb45.mono Hb4.out.size))
          have Hk0 := Lib.hid (Grew.at_ hb45 Hk0.out)
          have Hk1 := Lib.hid (Grew.at_ hb45 Hk1.out)
          have hownm := own_below hownm hb45
          have Hownm := Lib.hid hownm
          have HEm := Lib.hid (hEm.grew hb45)
          clear hkz hz45 hb45 hownm hEm
          have b0 : w5.cell? ⟨w.heap.size, 0, none⟩ = some (.int .i64 begin.1) := by rw [Lib.cell_of_heap Hk0.out]; rfl
          have b1 : w5.cell? ⟨w.heap.size, 1, none⟩ = some (.int .i64 begin.2) := by rw [Lib.cell_of_heap Hk0.out]; rfl
          have l0 : w5.cell? ⟨w.heap.size + 1, 0, none⟩ = some (.int .i64 last.1) := by rw [Lib.cell_of_heap Hk1.out]; rfl
          have l1 : w5.cell? ⟨w.heap.size + 1, 1, none⟩ = some (.int .i64 last.2) := by rw [Lib.cell_of_heap Hk1.out]; rfl
          have hB : Below w5.heap.size w5 w5.drew := (Below.refl _ w5).drew
          go_upto_region 4 with (fail)
          rw [← HW5.out]
          go_cut [10, 11, 12] (fun s10 s11 s12 wx => ∃ g ao co, s10 = .int .i64 k ∧ s11 = .pointer (some ⟨g, 0, none⟩) ∧ s12 = .slice ao M.length co ∧ wx.heap[g]? = some (.cells #[.int .i64 z.1, .int .i64 z.2] 32 (0, 0)) ∧ EntsAt wx (.slice ao M.length co) M ∧ Below w5.heap.size w5 wx)
          case first =>
            go_region_held3 (fun w' => w'.cell? ⟨w.heap.size, 0, none⟩ = some (.int .i64 begin.1) ∧ w'.cell? ⟨w.heap.size, 1, none⟩ = some (.int .i64 begin.2) ∧ w'.cell? ⟨w.heap.size + 1, 0, none⟩ = some (.int .i64 last.1) ∧ w'.cell? ⟨w.heap.size + 1, 1, none⟩ = some (.int .i64 last.2)) (first | exact ⟨Grew.cell hB b0, Grew.cell hB b1, Grew.cell hB l0, Grew.cell hB l1⟩ | (have hC := hB.alloc hB.size (.cells #[.int .i64 z.1, .int .i64 z.2] 32); exact ⟨Grew.cell hC b0, Grew.cell hC b1, Grew.cell hC l0, Grew.cell hC l1⟩) | (have hC := hB.alloc hB.size (.cells #[.int .i64 0, .int .i64 0] 32); exact ⟨Grew.cell hC b0, Grew.cell hC b1, Grew.cell hC l0, Grew.cell hC l1⟩) | (have hC := set2 hB hg z; exact ⟨Grew.cell hC b0, Grew.cell hC b1, Grew.cell hC l0, Grew.cell hC l1⟩) | go_keep) (first | (go_at_call 18; (with_reducible refine (HLL.out _ (by first | exact HO.out _ (Hb5.out.trans (hB.mono Hb5.out.size)) | exact HO.out _ ((Hb5.out.trans (hB.mono Hb5.out.size)).alloc (Nat.le_trans Hb5.out.size hB.size) _) | exact HO.out _ (Hb5.out.alloc Hb5.out.size _).drew)).mono ?_); rintro e wX ⟨aL, cL, rfl, hcL, hEL, hbX⟩; (try have hg := (by first | exact fresh_g hB hbX | exact fresh_g2 hbX)); have hB := (by first | exact step0 hB hbX | exact step1 hB hbX | exact step2 hbX); (try (have hN := (by first | exact fresh_new hbX | exact fresh_new2 hbX); have n0 := fresh0 hN; have n1 := fresh1 hN; have nf := fun i => Lib.frozen_of_heap hN i))) | (go_at_call 19; (with_reducible refine (HZ.out _ _).mono ?_); rintro e wX ⟨rfl, hbX⟩; (try have hg := (by first | exact fresh_g hB hbX | exact fresh_g2 hbX)); have hB := (by first | exact step0 hB hbX | exact step1 hB hbX | exact step2 hbX); (try have hEL := (by first | exact hEL.grew hbX | exact (hEL.grew (alloc_below _ _)).grew hbX)); (try (have hN := (by first | exact fresh_old hbX hN | exact fresh_new hbX); have n0 := fresh0 hN; have n1 := fresh1 hN; have nf := fun i => Lib.frozen_of_heap hN i))) | (go_at_call 17; (with_reducible refine (HRPl.out aL cL _ (by first | exact hEL | exact hEL.grew (alloc_below _ _)) hcL).mono ?_); rintro e wX ⟨ao, co, rfl, hEo, hbX⟩; (try have hg := (by first | exact fresh_g hB hbX | exact fresh_g2 hbX)); have hB := (by first | exact step0 hB hbX | exact step1 hB hbX | exact step2 hbX); (try (have hN := (by first | exact fresh_old hbX hN | exact fresh_new hbX); have n0 := fresh0 hN; have n1 := fresh1 hN; have nf := fun i => Lib.frozen_of_heap hN i))))
            all_goals
              go_wp2_with fail
              go_meet
              first | exact ⟨_, _, _, rfl, rfl, rfl, heap_alloc_new _ _, hEo.grew (alloc_below _ _), hB.alloc hB.size _⟩ | exact ⟨_, _, _, rfl, rfl, rfl, store2 hN z, ents_set2 hEo hN _ _, set2 hB hg z⟩
          case rest =>
            obtain ⟨g, ao, co, rfl, rfl, rfl, hkg, hEo, hbc⟩ := hcut
            have Hkg := Lib.hid hkg
            have HEo := Lib.hid hEo
            have Hb6 := Lib.hid (Hb5.out.trans (hbc.mono Hb5.out.size))
            have Hb63 := Lib.hid (Hb53.out.trans (hbc.mono Hb53.out.size))
            have Hkz := Lib.hid (Grew.at_ hbc Hkz.out)
            have Hk0 := Lib.hid (Grew.at_ hbc Hk0.out)
            have Hk1 := Lib.hid (Grew.at_ hbc Hk1.out)
            have HEm := Lib.hid (HEm.out.grew hbc)
            have Hownm := Lib.hid (own_below Hownm.out hbc)
            have HLm := Lib.hid (fun a2 c2 w2 h2 => l_at M a2 c2 w2 h2 (by omega))
            clear b0 b1 l0 l1 hB hkg hEo hbc
            have z0 := fresh0 Hkz.out
            have z1 := fresh1 Hkz.out
            have g0 := fresh0 Hkg.out
            have g1 := fresh1 Hkg.out
            have hB : Below wc.heap.size wc wc.drew := (Below.refl _ wc).drew
            have HSE := Lib.hid (fun a1 c1 a2 c2 w2 h2 h3 => sameents_any M M a1 a2 c1 c2 w2 h2 h3 (by omega) (by omega))
            rw [show sameE M M = true from decide_eq_true rfl] at HSE
            go_wp2_with fail
            go_region_held3 (fun w' => w'.cell? ⟨w4.heap.size, 0, none⟩ = some (.int .i64 z.1) ∧ w'.cell? ⟨w4.heap.size, 1, none⟩ = some (.int .i64 z.2) ∧ w'.cell? ⟨g, 0, none⟩ = some (.int .i64 z.1) ∧ w'.cell? ⟨g, 1, none⟩ = some (.int .i64 z.2)) (first | exact ⟨Grew.cell hB z0, Grew.cell hB z1, Grew.cell hB g0, Grew.cell hB g1⟩ | go_keep) (first | (go_at_call 19; (with_reducible refine (HZ.out _ _).mono ?_); rintro e wX ⟨rfl, hbX⟩; have hB := step0 hB hbX; (try have hEL := hEL.grew hbX)) | (go_at_call 18; (with_reducible refine (HLm.out _ _ _ (HEm.out.grew hB)).mono ?_); rintro e wX ⟨aL, cL, rfl, hcL, hEL, hbX⟩; have hB := step0 hB hbX) | (go_at_call 20; (with_reducible refine (HSE.out aL cL ao co _ hEL (HEo.out.grew hB)).mono ?_); rintro e wX ⟨rfl, hbX⟩; have hB := step0 hB hbX))
            all_goals
              have Hownm := Lib.hid (own_below Hownm.out hB)
              have Hb7 := Lib.hid (Hb63.out.trans (hB.mono Hb63.out.size))
              clear hB hEL hbX hcL z0 z1 g0 g1
              go_wp2_with fail
              go_loopw [13] (fun vi wr => ∃ (i : Nat) (M' : List Ent), vi = .int .i64 (i : Int) ∧ i ≤ M.length ∧ M'.length = M.length ∧ (∀ x ∈ M', x.b.length ≤ 1000 + i) ∧ wr.ownsRow w3.heap.size 28 3 (.slice am M.length cm) M.length (entRow M') ∧ Below w3.heap.size w3 wr) (fun vi _ => M.length - (intOf vi).toNat)
              case atStart => exact ⟨0, M, rfl, by omega, rfl, hbod.out, Hownm.out, Hb7.out⟩
              case round =>
                obtain ⟨i, M', rfl, hi, hlM, hbo, hown, hbr⟩ := hrel
                have HlM := Lib.hid hlM
                have Hbo := Lib.hid hbo
                have Hown := Lib.hid hown
                clear hlM hbo hown
                by_cases h : i < M.length
                · as_aux_lemma =>
                  obtain ⟨g', ham⟩ : ∃ g', am = some ⟨g', 0, none⟩ := by
                    rcases Hown.out.2 with ⟨_, h0⟩ | ⟨g', c', cur, hv, _⟩
                    · omega
                    · simp only [Value.slice.injEq] at hv
                      exact ⟨g', hv.1⟩
                  subst ham
                  obtain ⟨x, M2, hx, hlx, hl2, hc0, hc2, hf2, hrow⟩ := row_bump Hown.out i (by rw [HlM.out]; exact h) HlM.out Hbo.out
                  have hg3 := (Hown.out.lt g' rfl).1
                  have Hrow := Lib.hid hrow
                  have Hl2 := Lib.hid hl2
                  have hsz : (bs x.b).size + 1 ≤ 9223372036854775807 := by rw [bs_size]; omega
                  have hB2 := Lib.hid (hbr.setCell (p := ⟨g', i * 3 + 2, none⟩) hg3 (.string (bs x.b ++ bs [120])))
                  clear hrow hl2 hx
                  go_wp2
                  go_roundw
                  case rel => exact ⟨i + 1, M2, by go_num, by omega, Hl2.out, Hrow.out.1, Hrow.out.2, hB2.out⟩
                  case measure => simp [intOf]; omega
                · as_aux_lemma =>
                  have Hbw := Lib.hid (Hb3.out.trans (hbr.mono Hb3.out.size))
                  have Hk0 := Grew.at_ hbr Hk03.out
                  have Hk1 := Grew.at_ hbr Hk13.out
                  have b0 := fresh0 Hk0
                  have b1 := fresh1 Hk0
                  have l0 := fresh0 Hk1
                  have l1 := fresh1 Hk1
                  have hB : Below wr.heap.size wr wr.drew := (Below.refl _ wr).drew
                  clear Hk0 Hk1
                  go_wp2_with fail
                  go_region_held3 (fun w' => w'.cell? ⟨w.heap.size, 0, none⟩ = some (.int .i64 begin.1) ∧ w'.cell? ⟨w.heap.size, 1, none⟩ = some (.int .i64 begin.2) ∧ w'.cell? ⟨w.heap.size + 1, 0, none⟩ = some (.int .i64 last.1) ∧ w'.cell? ⟨w.heap.size + 1, 1, none⟩ = some (.int .i64 last.2)) (first | exact ⟨Grew.cell hB b0, Grew.cell hB b1, Grew.cell hB l0, Grew.cell hB l1⟩ | go_keep) (first | (go_at_call 18; (with_reducible refine (HLL.out _ (HO.out _ (Hbw.out.trans (hB.mono Hbw.out.size)))).mono ?_); rintro e wX ⟨aL, cL, rfl, hcL, hEL, hbX⟩; have hB := step0 hB hbX) | (go_at_call 19; (with_reducible refine (HZ.out _ _).mono ?_); rintro e wX ⟨rfl, hbX⟩; have hB := step0 hB hbX; (try have hEL := hEL.grew hbX)) | (go_at_call 17; (with_reducible refine (HRPl.out aL cL _ hEL hcL).mono ?_); rintro e wX ⟨ao2, co2, rfl, hEo2, hbX⟩; have hB := step0 hB hbX))
                  all_goals
                    have Hb8 := Lib.hid (Hbw.out.trans (hB.mono Hbw.out.size))
                    have HEo2 := Lib.hid hEo2
                    have b0 := Grew.cell hB b0
                    have b1 := Grew.cell hB b1
                    have l0 := Grew.cell hB l0
                    have l1 := Grew.cell hB l1
                    clear hEL hbX hB hEo2
                    go_wp2_with fail
                    refine (HPl.out _ (HO.out _ Hb8.out)).mono ?_
                    rintro e w9 ⟨am2, cm2, rfl, hlm2, _, hEm2, hb9⟩
                    have HEo2 := HEo2.out.grew hb9
                    have Hb9 := Lib.hid (Hb8.out.trans (hb9.mono Hb8.out.size))
                    have HEo2 := Lib.hid HEo2
                    have HEm2 := Lib.hid hEm2
                    clear hb9 hEm2
                    go_wp2_with fail
                    refine (HLm.out _ _ _ HEm2.out).mono ?_
                    rintro e w10 ⟨a10, c10, rfl, hc10, hE10, hb10⟩
                    have HEo2 := Lib.hid (HEo2.out.grew hb10)
                    have Hb10 := Lib.hid (Hb9.out.trans (hb10.mono Hb9.out.size))
                    clear hb10
                    go_wp2_with fail
                    refine (HSE.out _ _ _ _ _ hE10 HEo2.out).mono ?_
                    rintro e w11 ⟨rfl, hb11⟩
                    have Hb11 := Lib.hid (Hb10.out.trans (hb11.mono Hb10.out.size))
                    clear hb11 hE10
                    go_wp2_with fail
                    refine (awake_any _).mono ?_
                    rintro e w12 ⟨rfl, hb12⟩
                    go_wp2
                    go_ret
                    exact ⟨rfl, Hb11.out.trans (hb12.mono Hb11.out.size)⟩

        · as_aux_lemma =>
          rw [Bool.not_eq_true] at hl
          rw [hl] at HLs
          clear hf h0 hr hl hlaw0 hgx
          go_wp2_with (fail)
          have hex := Grew.all w1
          refine wp_region_grew (by kernel_rfl) (by kernel_rfl) ?_
          repeat (first | go_big_quiet_skip | (go_big_quiet_want; first | (refine quiet_load_mid 24 _ rfl _ _ rfl [.int .i64 begin.1, .int .i64 begin.2] _ (fun W hW => range2 (Grew.cell hW b0) (Grew.cell hW b1)) Try.underlying24 rfl (by kernel_rfl) ?_; simp only [Act.put, List.setIfInBounds_toArray, List.set_cons_succ, List.set_cons_zero]; go_big_quiet_on) | (refine quiet_load_mid 24 _ rfl _ _ rfl [.int .i64 x.e, .int .i64 x.c] _ (fun W hW => range2 (Grew.cell hW x0) (Grew.cell hW x1)) Try.underlying24 rfl (by kernel_rfl) ?_; simp only [Act.put, List.setIfInBounds_toArray, List.set_cons_succ, List.set_cons_zero]; go_big_quiet_on) | (go_big_quiet_op; first | go_big_quiet_on | (apply Exists.intro; refine ⟨fun W hW => ?_, ?_⟩; (first | exact rfl | (go_at_call 12; with_reducible exact Calls.grew hW (HF.out _ (HO.out _ (grew_below Hb1.out hW)))) | (go_at_call 13; with_reducible exact Calls.grew hW (HR.out _ (HO.out _ (grew_below Hb1.out hW)))) | (go_at_call 14; with_reducible exact Calls.grew hW (HLs.out _))); go_big_quiet_on))))
          refine wpQuiet_nil ?_
          intro w3 hw4
          have Hb3 := Lib.hid (Hb1.out.trans (Below.mono (show Below w1.heap.size w1 w3 from hw4) Hb1.out.size))
          clear hex
          go_wp2_with (fail)
          refine (awake_any _).mono ?_
          rintro e w9 ⟨rfl, hb9⟩
          go_wp2
          go_ret
          exact ⟨rfl, Hb3.out.trans (hb9.mono Hb3.out.size)⟩
    · as_aux_lemma =>
      rw [Bool.not_eq_true] at hr
      rw [hr] at HR
      clear hf hr
      go_wp2_with (fail)
      have hex := Grew.all w1
      refine wp_region_grew (by kernel_rfl) (by kernel_rfl) ?_
      repeat (first | go_big_quiet_skip | (go_big_quiet_want; first | (refine fail ?_; simp only [Act.put, List.setIfInBounds_toArray, List.set_cons_succ, List.set_cons_zero]; go_big_quiet_on) | (go_big_quiet_op; first | go_big_quiet_on | (apply Exists.intro; refine ⟨fun W hW => ?_, ?_⟩; (first | exact rfl | (go_at_call 12; with_reducible exact Calls.grew hW (HF.out _ (HO.out _ (grew_below Hb1.out hW)))) | (go_at_call 13; with_reducible exact Calls.grew hW (HR.out _ (HO.out _ (grew_below Hb1.out hW)))) | (go_at_call 14; with_reducible exact Calls.grew hW (HLs.out _))); go_big_quiet_on))))
      refine wpQuiet_nil ?_
      intro w3 hw4
      have Hb3 := Lib.hid (Hb1.out.trans (Below.mono (show Below w1.heap.size w1 w3 from hw4) Hb1.out.size))
      clear hex
      go_wp2_with (fail)
      refine (awake_any _).mono ?_
      rintro e w9 ⟨rfl, hb9⟩
      go_wp2
      go_ret
      exact ⟨rfl, Hb3.out.trans (hb9.mono Hb3.out.size)⟩
  · as_aux_lemma =>
    rw [Bool.not_eq_true] at hf
    rw [hf] at HF
    clear hf
    go_wp2_with (fail)
    have hex := Grew.all w1
    refine wp_region_grew (by kernel_rfl) (by kernel_rfl) ?_
    repeat (first | go_big_quiet_skip | (go_big_quiet_want; first | (refine fail ?_; simp only [Act.put, List.setIfInBounds_toArray, List.set_cons_succ, List.set_cons_zero]; go_big_quiet_on) | (go_big_quiet_op; first | go_big_quiet_on | (apply Exists.intro; refine ⟨fun W hW => ?_, ?_⟩; (first | exact rfl | (go_at_call 12; with_reducible exact Calls.grew hW (HF.out _ (HO.out _ (grew_below Hb1.out hW)))) | (go_at_call 13; with_reducible exact Calls.grew hW (HR.out _ (HO.out _ (grew_below Hb1.out hW)))) | (go_at_call 14; with_reducible exact Calls.grew hW (HLs.out _))); go_big_quiet_on))))
    refine wpQuiet_nil ?_
    intro w3 hw4
    have Hb3 := Lib.hid (Hb1.out.trans (Below.mono (show Below w1.heap.size w1 w3 from hw4) Hb1.out.size))
    clear hex
    go_wp2_with (fail)
    refine (awake_any _).mono ?_
    rintro e w9 ⟨rfl, hb9⟩
    go_wp2
    go_ret
    exact ⟨rfl, Hb3.out.trans (hb9.mono Hb3.out.size)⟩
/-- THE LAW. -/
theorem histPlans_walk (W : World) (v0 v1 v2 : Value) (h0 : IsEnts W v0) (h1 : IsZ v1) (h2 : IsZ v2) :
    Calls Try.prog 3 #[v0, v1, v2] W fun e w' => e = .returned (.bool true) ∧ Below W.heap.size W w' := by
  obtain ⟨L, a, cap, rfl, h1', h2', h3, h4⟩ := h0
  obtain ⟨t, rfl, _, _⟩ := h1
  obtain ⟨u, rfl, _, _⟩ := h2
  exact plans_any L a cap t u W h3 h1' (Nat.le_trans h1' h2') h4
end Go.Proofs.Ytaahbfcnccmcoaa
