/- The walk of awake. Conditions: as each theorem says. -/
import Derived.Test.YtkidhbflojlmoaaGreatZabV
namespace Go.Proofs.YtkidhbflojlmoaaGreat
open Go.RowKit

theorem log_nil (w : World) : LogOf nilS [] w := ⟨none, 0, rfl, ⟨none, 0, rfl, fun i hi => by simp at hi⟩, by simp, by simp⟩
theorem below_row {w w1 w2 : World} {g : Nat} (h : Below w.heap.size w w1) (hg : w.heap.size ≤ g) (h2 : w1.grownBy w2 (some g)) : Below w.heap.size w w2 :=
  h.grown h2 h.size (fun k hk => by simp only [Option.some.injEq] at hk; omega)
set_option maxRecDepth 100000 in
set_option maxHeartbeats 4000000 in
theorem awake_any (w : World) : Calls Tryz.prog 5 #[] w fun e w' => e = .returned (.bool true) ∧ Below w.heap.size w w' := by
  have HN := Lib.hid new_zero
  have HSt : ∀ (g : Nat) W, NodeAt g nd0 W → Calls Tryz.prog 15 #[.pointer (some ⟨g, 0, none⟩)] W fun e w' => e = .returned (.slice none 0 0) ∧ (∃ n, NodeAt g n w' ∧ Al n [] 1 ∧ n.acc = 1 ∧ n.lv = nilS) ∧ W.grownBy w' (some g) := fun g W hN =>
    (Start_one g nd0 nd0_lone (Int.le_refl _) (by decide) (Int.le_refl _) [] (Int.le_refl _) (Int.le_refl _) none rfl rfl W hN (log_nil W) (fun b hb => by cases hb)).mono fun e w' ⟨he, ⟨q, hq⟩, hg⟩ => ⟨he, ⟨_, hq, Al.first q, rfl, rfl⟩, hg⟩
  have HSt := Lib.hid HSt
  have HSa : ∀ (g : Nat) (n : Nd) (L : List Ent) W, NodeAt g n W → n.fit → LogAt n L W → ∀ ac, n.acc = ac → Calls Tryz.prog 11 #[.pointer (some ⟨g, 0, none⟩)] W fun e w' => ∃ a c, e = .returned (.agg #[.int .i64 ac, .int .i64 n.cur, .int .i64 n.beg.1, .int .i64 n.beg.2, .string (bs n.img), .slice a L.length c]) ∧ EntsAt w' (.slice a L.length c) L ∧ Below W.heap.size W w' := fun g n L W hN hf hL ac hac =>
    (state_any g n hf L W hN hL).mono fun e w' ⟨v, he, ⟨a, c, hv, hE, _, _⟩, hb⟩ => ⟨a, c, by rw [he, ← hac, hv]; rfl, by rw [← hv]; exact hE, hb⟩
  have HSa := Lib.hid HSa
  have HPr : ∀ (g : Nat) (n : Nd) W, NodeAt g n W → Al n [] 1 → n.acc = 1 → n.lv = nilS → Calls Tryz.prog 14 #[.pointer (some ⟨g, 0, none⟩), .string ⟨#[97]⟩] W fun e w' => e = .returned (.tuple #[.slice none 0 0, .int .i64 0]) ∧ (∃ n', NodeAt g n' w' ∧ n'.fit ∧ LogAt n' [⟨1, 1, [97]⟩] w' ∧ n'.commit = (1, 1)) ∧ W.grownBy w' (some g) := fun g n W hN hA hac hlv => by
    have hz : lastN n [] = (0, 0) := by unfold lastN; rw [if_pos rfl]; exact hA.beg
    have hz1 : nextZ n.acc (lastN n []) = (1, 1) := by rw [hz, hac]; rfl
    refine (propose_one g n hA.lone hA.is hA.step hA.ov [] [97] (by simp) (1, 1) hz1.symm hA.lo2 (by rw [hz]; simp) (by rw [hA.commit, hz]; rfl) W hN (by rw [show LogAt n [] W = LogOf n.lv [] W from rfl, hlv]; exact log_nil W) (fun b hb => by rw [hlv] at hb; cases hb)).mono ?_
    rintro e w' ⟨he, ⟨v, h1, h2, _⟩, hg⟩
    exact ⟨he, ⟨_, h1, ⟨hA.lone.fit.n1, hA.lone.fit.n7, hA.lone.fit.me, hA.lone.fit.peers⟩, h2, rfl⟩, hg⟩
  have HPr := Lib.hid HPr
  have HPh : ∀ (g : Nat) (n : Nd) W, NodeAt g n W → n.commit = (1, 1) → Calls Tryz.prog 10 #[.pointer (some ⟨g, 0, none⟩)] W fun e w' => e = .returned (.agg #[.int .i64 n.is, .int .i64 n.leader, .bool (startedB n), .int .i64 1, .int .i64 1]) ∧ Below W.heap.size W w' := fun g n W hN hc => by
    have := phase_any g n W hN
    unfold phaseV at this
    rw [hc] at this
    exact this
  have HPh := Lib.hid HPh
  unfold ptrV at HN
  go_enter Tryz.func5, Tryz.ntmps5
  go_upto_region 5 with (first
    | (go_at_call 22; (with_reducible refine (HN.out _).mono ?_); rintro e w1 ⟨g, rfl, hg, hN1, hb1⟩)
    | (go_at_call 15; (with_reducible refine (HSt.out _ _ hN1).mono ?_); rintro e w2 ⟨rfl, ⟨n2, hN2, hA2, hac2, hlv2⟩, hg2⟩))
  have hL2 : LogAt n2 [] w2 := by rw [show LogAt n2 [] w2 = LogOf n2.lv [] w2 from rfl, hlv2]; exact log_nil w2
  have HB2 := Lib.hid (below_row hb1 hg hg2)
  clear hN1 hb1 hg2
  go_upto_region 6 with (go_at_call 11; (with_reducible refine (HSa.out _ n2 [] _ hN2 hA2.lone.fit hL2 1 hac2).mono ?_); rintro e w3 ⟨a, c, rfl, -, hb3⟩; have f0 : ∀ W, (Instr.field 46 (.agg #[.int .i64 1, .int .i64 n2.cur, .int .i64 n2.beg.1, .int .i64 n2.beg.2, .string (bs n2.img), .slice a 0 c]) 0).run Tryz.prog W = .ok (.int .i64 1) W := fun W => field_acc _ _ _ _ _ a 0 c W)
  have HN3 := Lib.hid (show NodeAt g n2 w3 from BlkAt.grew hN2 hb3)
  have HB3 := Lib.hid (HB2.out.trans (hb3.mono HB2.out.size))
  clear hb3 hN2 hL2 f0
  go_upto_region 7 with (go_at_call 14; (with_reducible refine (HPr.out _ n2 _ HN3.out hA2 hac2 hlv2).mono ?_); rintro e w4 ⟨rfl, ⟨n4, hN4, hf4, hL4, hc4⟩, hg4⟩)
  have HB4 := Lib.hid (below_row HB3.out hg hg4)
  clear hg4
  go_upto_region 8 with (go_at_call 11; (with_reducible refine (HSa.out _ n4 _ _ hN4 hf4 hL4 n4.acc rfl).mono ?_); rintro e w5 ⟨a5, c5, rfl, hE5, hb5⟩)
  obtain ⟨bb, off, rfl, e0, e1, -⟩ := ents_get hE5 0 (by simp)
  rw [Nat.zero_mul, Nat.add_zero] at e0 e1
  have hb6 := hb5.alloc hb5.size (.cells #[.int .i64 n4.acc, .int .i64 n4.cur, .int .i64 n4.beg.1, .int .i64 n4.beg.2, .string (bs n4.img), .slice (some ⟨bb, off, none⟩) 1 c5] StaT)
  have hS := BlkAt.alloc_new w5 [.int .i64 n4.acc, .int .i64 n4.cur, .int .i64 n4.beg.1, .int .i64 n4.beg.2, .string (bs n4.img), .slice (some ⟨bb, off, none⟩) 1 c5] StaT
  have e0 := Grew.cell (alloc_below w5 (.cells #[.int .i64 n4.acc, .int .i64 n4.cur, .int .i64 n4.beg.1, .int .i64 n4.beg.2, .string (bs n4.img), .slice (some ⟨bb, off, none⟩) 1 c5] StaT)) e0
  have e1 := Grew.cell (alloc_below w5 (.cells #[.int .i64 n4.acc, .int .i64 n4.cur, .int .i64 n4.beg.1, .int .i64 n4.beg.2, .string (bs n4.img), .slice (some ⟨bb, off, none⟩) 1 c5] StaT)) e1
  have s5 := hS.cell (i := 5) (v := .slice (some ⟨bb, off, none⟩) 1 c5) rfl
  generalize w5.alloc (.cells #[.int .i64 n4.acc, .int .i64 n4.cur, .int .i64 n4.beg.1, .int .i64 n4.beg.2, .string (bs n4.img), .slice (some ⟨bb, off, none⟩) 1 c5] StaT) = w6 at *
  generalize w5.heap.size = B at *
  have HPh6 := fun W (hW : Grew w6 W) => HPh.out g n4 W (BlkAt.grew (BlkAt.grew hN4 hb6) hW) hc4
  have HPh6 := Lib.hid HPh6
  have f3 : ∀ W, (Instr.field 43 (.agg #[.int .i64 n4.is, .int .i64 n4.leader, .bool (startedB n4), .int .i64 1, .int .i64 1]) 3).run Tryz.prog W = .ok (.agg #[.int .i64 1, .int .i64 1]) W := fun W => field_commit _ _ _ _ _ W
  have HB6 := Lib.hid (HB4.out.trans (hb6.mono HB4.out.size))
  clear hb5 hb6 hS hE5 hN4 hL4 hc4 hf4
  have hex := Grew.all w6
  refine wp_region_grew (by kernel_rfl) (by kernel_rfl) ?_
  repeat (first | go_big_quiet_skip | (go_big_quiet_want; first | (refine quiet_load_cell _ _ rfl ⟨B, 5, none⟩ rfl _ _ Tryz.underlying27 rfl (fun W hW => Grew.cell hW s5) ?_; simp only [Act.put, List.setIfInBounds_toArray, List.set_cons_succ, List.set_cons_zero]; go_big_quiet_on) | (refine quiet_load_mid 41 _ rfl bb off rfl [.int .i64 1, .int .i64 1] _ (fun W hW => range2 (Grew.cell hW e0) (Grew.cell hW e1)) Tryz.underlying41 rfl (by kernel_rfl) ?_; simp only [Act.put, List.setIfInBounds_toArray, List.set_cons_succ, List.set_cons_zero]; go_big_quiet_on) | (go_big_quiet_op; first | go_big_quiet_on | (apply Exists.intro; refine ⟨fun W hW => ?_, ?_⟩; (first | (go_at_call 10; with_reducible exact Calls.grew hW (HPh6.out _ hW))); go_big_quiet_on))))
  refine wpQuiet_nil ?_
  intro w7 hw7
  clear hex
  go_wp2
  go_ret
  exact ⟨rfl, HB6.out.trans (Below.mono (show Below w6.heap.size w6 w7 from hw7) HB6.out.size)⟩
end Go.Proofs.YtkidhbflojlmoaaGreat
