/- The reference's At, wrong, with. Conditions: as each theorem says. -/
import Derived.Test.YtnliapdhmjljiaaGenKa
namespace Go.Proofs.Ytnliapdhmjljiaa
open Go.RowKit

abbrev RefT : TypeId := 43
abbrev RkT : TypeId := 27
def refCells (c : Ch) : List Value := [.int .i64 c.rev, .int .i64 c.cr, .int .i64 c.ver, .bool c.gone]
theorem ref_len (c : Ch) : (refCells c).length = 4 := rfl
def refV (c : Ch) : Value := .agg #[.int .i64 c.rev, .int .i64 c.cr, .int .i64 c.ver, .bool c.gone]
theorem infoRef : (Try.prog.info? RefT).map (fun i => (i.zero, i.size, i.bytes)) = some (some (.agg #[.int .i64 0, .int .i64 0, .int .i64 0, .bool false]), 4, 32) := by kernel_rfl
theorem grown_new {w a b : World} {g : Nat} (h : Below w.heap.size w a) (k : a.grownBy b (some g)) (hg : w.heap.size ≤ g) : Below w.heap.size w b := h.grown k h.size (by intro k hk; simp only [Option.some.injEq] at hk; omega)
theorem ref_one (c : Ch) : ∀ u ∈ refCells c, u.oneCell' = true := by intro u hu; simp [refCells] at hu; rcases hu with rfl | rfl | rfl | rfl <;> rfl
theorem ref_get {w : World} {a : Option Addr} {n c : Nat} {L : List Ch} (h : RowsAt 4 refCells w (.slice a n c) L) (i : Nat) (hi : i < L.length) : ∃ b off, a = some ⟨b, off, none⟩ ∧ w.cell? ⟨b, off + i * 4, none⟩ = some (.int .i64 L[i].rev) ∧ w.cell? ⟨b, off + i * 4 + 1, none⟩ = some (.int .i64 L[i].cr) ∧ w.cell? ⟨b, off + i * 4 + 2, none⟩ = some (.int .i64 L[i].ver) ∧ w.cell? ⟨b, off + i * 4 + 3, none⟩ = some (.bool L[i].gone) := by
  obtain ⟨a', c', hv, hr⟩ := h
  simp only [Value.slice.injEq] at hv
  obtain ⟨rfl, _, _⟩ := hv
  obtain ⟨b, off, e, hc⟩ := hr i hi
  exact ⟨b, off, e, hc 0 _ rfl, hc 1 _ rfl, hc 2 _ rfl, hc 3 _ rfl⟩
theorem take_last (A : List Ch) (i : Nat) (hi : i < A.length) : (A.take (i + 1)).getLastD zeroC = A[i] := by
  rw [List.take_succ_eq_append_getElem hi, List.getLastD_eq_getLast?, List.getLast?_append]; simp
theorem at_split (L A B : List Ch) (rev : Int) (e : L = A ++ B) (hA : ∀ c ∈ A, c.rev ≤ rev) (hB : ∀ c ∈ B, rev < c.rev) : atR L rev = if (A.getLastD zeroC).gone = true then zeroC else A.getLastD zeroC := by
  unfold atR
  rw [e, seenR_append, seenR_all rev zeroC A hA, seenR_no _ _ B hB]
set_option maxRecDepth 100000 in
set_option maxHeartbeats 1000000 in
theorem refAt_any (L : List Ch) (last rev : Int) (u : Value) (w : World) (h : RowsAt 4 refCells w u L) (ha : ascC 0 L) (hl : L.length ≤ 1000000) :
    Calls Try.prog 17 #[.agg #[u, .int .i64 last], .int .i64 rev] w fun e w' => e = .returned (refV (atR L rev)) ∧ Below w.heap.size w w' := by
  obtain ⟨A, B, e, hA, hB⟩ := asc_part L 0 rev ha
  have HAt := Lib.hid (at_split L A B rev e hA hB)
  have HLow : Hid (∀ i (hi : i < L.length), i < A.length → L[i] = A.getD i zeroC ∧ L[i].rev ≤ rev) := Lib.hid (fun i hi h1 => by
    subst e
    rw [List.getElem_append_left h1]
    exact ⟨by simp [h1], hA _ (List.getElem_mem h1)⟩)
  have HHi : Hid (∀ i (hi : i < L.length), A.length ≤ i → rev < L[i].rev) := Lib.hid (fun i hi h1 => by
    subst e
    rw [List.getElem_append_right h1]
    exact hB _ (List.getElem_mem _))
  have hAl : A.length ≤ L.length := by subst e; simp
  have HTk := Lib.hid (take_last A)
  clear hA hB e ha
  have HR := Lib.hid h
  obtain ⟨a, cap, rfl, _⟩ := h
  have hb0 := alloc_below w (.cells #[.slice a L.length cap, .int .i64 last] RkT)
  have hk0 := BlkAt.alloc_new w [.slice a L.length cap, .int .i64 last] RkT
  have hk1 := BlkAt.alloc_new (w.alloc (.cells #[.slice a L.length cap, .int .i64 last] RkT)) (refCells zeroC) RefT
  have hb1 := alloc_below (w.alloc (.cells #[.slice a L.length cap, .int .i64 last] RkT)) (.cells #[.int .i64 0, .int .i64 0, .int .i64 0, .bool false] RefT)
  have hk2 := BlkAt.alloc_new ((w.alloc (.cells #[.slice a L.length cap, .int .i64 last] RkT)).alloc (.cells #[.int .i64 0, .int .i64 0, .int .i64 0, .bool false] RefT)) (refCells zeroC) RefT
  have hb2 := alloc_below ((w.alloc (.cells #[.slice a L.length cap, .int .i64 last] RkT)).alloc (.cells #[.int .i64 0, .int .i64 0, .int .i64 0, .bool false] RefT)) (.cells #[.int .i64 0, .int .i64 0, .int .i64 0, .bool false] RefT)
  simp only [refCells, zeroC] at hk1 hk2
  have K0 := Lib.hid ((hk0.grew hb1).grew hb2)
  have K1 := Lib.hid (hk1.grew hb2)
  have K2 := Lib.hid hk2
  have KB := Lib.hid (hb0.trans ((hb1.mono hb0.size).trans (hb2.mono (Nat.le_trans hb0.size hb1.size))))
  clear hb0 hk0 hk1 hb1 hk2 hb2
  simp only [World.size_alloc] at K1 K2
  have hz0 : decide ((0 : Int) ≤ rev) = true ∨ True := .inr trivial
  clear hz0
  go_enter Try.func17, Try.ntmps17
  go_wp2_with (fail)
  generalize ((w.alloc (.cells #[.slice a L.length cap, .int .i64 last] RkT)).alloc (.cells #[.int .i64 0, .int .i64 0, .int .i64 0, .bool false] RefT)).alloc (.cells #[.int .i64 0, .int .i64 0, .int .i64 0, .bool false] RefT) = wb at *
  go_loopw [6] (fun iv W => ∃ i : Nat, i ≤ A.length ∧ iv = .int .i64 (i : Int) ∧ BlkAt w.heap.size RkT [.slice a L.length cap, .int .i64 last] W ∧ BlkAt (w.heap.size + 1) RefT [.int .i64 0, .int .i64 0, .int .i64 0, .bool false] W ∧ BlkAt (w.heap.size + 1 + 1) RefT (refCells ((A.take i).getLastD zeroC)) W ∧ Below w.heap.size w W) (fun iv _ => A.length - (intOf iv).toNat)
  case atStart => exact ⟨0, Nat.zero_le _, rfl, K0.out, K1.out, K2.out, KB.out⟩
  case round =>
    obtain ⟨i, hi, rfl, k0, k1, k2, hb⟩ := hrel
    have c0 := k0.cell (i := 0) rfl
    have hsz := hb.size
    clear K0 K1 K2 KB
    by_cases hlt : i < A.length
    · have hil : i < L.length := by omega
      obtain ⟨b, off, rfl, z0, z1, z2, z3⟩ := ref_get (HR.out.grew hb) i hil
      obtain ⟨e1, e2⟩ := HLow.out i hil hlt
      have ed : decide (L[i].rev ≤ rev) = true := decide_eq_true e2
      have HT := Lib.hid (HTk.out i hlt)
      have hAi : A.getD i zeroC = A[i] := by simp [hlt]
      rw [hAi] at e1
      rw [e1] at ed z0 z1 z2 z3
      clear e1 e2 HLow HHi HAt HTk hAi
      generalize A[i] = x at *
      generalize (A.take i).getLastD zeroC = y at *
      have HK0 := Lib.hid k0
      have HK1 := Lib.hid k1
      have HB := Lib.hid hb
      clear k0 k1 hb
      have HS : Hid (Stores Try.prog RefT (w.heap.size + 1 + 1) (refCells x) #[.int .i64 x.rev, .int .i64 x.cr, .int .i64 x.ver, .bool x.gone] wr) := Lib.hid (stores_of k2 rfl (by kernel_rfl) (ref_one x))
      clear k2
      go_wp2_with ((with_reducible refine HS.out _ _ _ _ _ ?_ ?_ ?_); exact rfl; exact ⟨_, _, rfl, rfl, rfl⟩; intro w1 h1 g1; have HB1 := Lib.hid (grown_new HB.out g1 (by omega)); have HK01 := Lib.hid (HK0.out.grown g1 (by simp; omega)); have HK11 := Lib.hid (HK1.out.grown g1 (by simp)); have HK21 := Lib.hid h1; clear h1 g1)
      go_roundw
      case rel => exact ⟨i + 1, hlt, by go_num, HK01.out, HK11.out, by rw [HT.out]; exact HK21.out, HB1.out⟩
      case measure => simp [intOf]; omega
    · obtain rfl : i = A.length := by omega
      rw [List.take_length] at k2
      have hex : decide (A.length < L.length) = false ∨ (A.length < L.length ∧ decide (A.length < L.length) = true ∧ ∃ b off x, a = some ⟨b, off, none⟩ ∧ wr.cell? ⟨b, off + A.length * 4, none⟩ = some (.int .i64 x) ∧ decide (x ≤ rev) = false) := by
        by_cases h1 : A.length < L.length
        · obtain ⟨b, off, e, z0, _⟩ := ref_get (HR.out.grew hb) A.length h1
          exact .inr ⟨h1, decide_eq_true h1, b, off, _, e, z0, decide_eq_false (by have := HHi.out A.length h1 (Nat.le_refl _); omega)⟩
        · exact .inl (decide_eq_false h1)
      clear HLow HHi HTk HR
      generalize A.getLastD zeroC = x at *
      have y3 := k2.cell (i := 3) rfl
      have y0 := k2.cell (i := 0) rfl
      have y1 := k2.cell (i := 1) rfl
      have y2 := k2.cell (i := 2) rfl
      have hs2 := k2.lt
      clear k0
      have HB := Lib.hid hb
      clear hb
      cases hg : x.gone with
      | true =>
        rw [if_pos hg] at HAt
        rw [hg] at y3
        have HS : Hid (Stores Try.prog RefT (w.heap.size + 1) (refCells zeroC) #[.int .i64 0, .int .i64 0, .int .i64 0, .bool false] wr) := Lib.hid (stores_of k1 rfl (by kernel_rfl) (ref_one zeroC))
        clear k1
        rcases hex with d1 | ⟨h1, d1, b, off, z, rfl, z0, d2⟩
        all_goals
          go_wp2_with ((with_reducible refine HS.out _ _ _ _ _ ?_ ?_ ?_); exact rfl; exact ⟨_, _, rfl, rfl, rfl⟩; intro w1 h1 g1; have HB1 := Lib.hid (grown_new HB.out g1 (by omega)); have HK := Lib.hid h1; clear h1 g1)
          have hld := run_load_blk (P := Try.prog) HK.out _ Try.underlying43 rfl (by kernel_rfl)
          exact bodyPost_ret (v := .agg #[.int .i64 0, .int .i64 0, .int .i64 0, .bool false]) (results_cell Try.results17 _ _ _ ⟨w.heap.size + 1, 0, none⟩ _ (by rfl) hld) rfl ⟨by rw [HAt.out]; rfl, HB1.out⟩
      | false =>
        rw [if_neg (by rw [hg]; decide)] at HAt
        rw [hg] at y3
        have HG := Lib.hid hg
        clear hg
        have HS : Hid (Stores Try.prog RefT (w.heap.size + 1) (refCells ⟨x.rev, x.cr, x.ver, false⟩) #[.int .i64 x.rev, .int .i64 x.cr, .int .i64 x.ver, .bool false] wr) := Lib.hid (stores_of k1 rfl (by kernel_rfl) (ref_one _))
        clear k1
        rcases hex with d1 | ⟨h1, d1, b, off, z, rfl, z0, d2⟩
        all_goals
          go_wp2_with ((with_reducible refine HS.out _ _ _ _ _ ?_ ?_ ?_); exact rfl; exact ⟨_, _, rfl, rfl, rfl⟩; intro w1 h1 g1; have HB1 := Lib.hid (grown_new HB.out g1 (by omega)); have HK := Lib.hid h1; clear h1 g1)
          have hld := run_load_blk (P := Try.prog) HK.out _ Try.underlying43 rfl (by kernel_rfl)
          exact bodyPost_ret (v := .agg #[.int .i64 x.rev, .int .i64 x.cr, .int .i64 x.ver, .bool false]) (results_cell Try.results17 _ _ _ ⟨w.heap.size + 1, 0, none⟩ _ (by rfl) hld) rfl ⟨by rw [HAt.out]; unfold refV; rw [HG.out], HB1.out⟩
end Go.Proofs.Ytnliapdhmjljiaa
