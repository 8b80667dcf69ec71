/- The walk of awake. Conditions: as each theorem says. -/
import Derived.Test.YteoibolompiohaaIdxSc
namespace Go.Proofs.Yteoibolompiohaa
open Go.RowKit

def cB1 : List Pr := [([98], 1)]
def cAB : List Pr := [([97], 2), ([98], 1)]
def cAB3 : List Pr := [([97], 2), ([98], 3)]
def cB3 : List Pr := [([98], 3)]
theorem ex1 : insF [] [98] 1 = cB1 := by decide +kernel
theorem ex2 : insF cB1 [97] 2 = cAB := by decide +kernel
theorem ex3 : insF cAB [98] 3 = cAB3 ∧ numF cAB [98] = 1 ∧ hasF cAB [98] = true := by decide +kernel
theorem ex4 : rngL (cAB3.drop (spotF cAB3 [])) [] 9 = cAB3 := by decide +kernel
theorem ex5 : delF cAB3 [97] = cB3 ∧ numF cAB3 [97] = 2 ∧ hasF cAB3 [97] = true := by decide +kernel
theorem ex6 : nextP (cB3.drop (spotF cB3 [97, 97])) = (([98], 3), true) := by decide +kernel
set_option maxRecDepth 100000 in
set_option maxHeartbeats 2000000 in
theorem awake_any (w : World) : Calls Try.prog 14 #[] w fun e w' => e = .returned (.bool true) ∧ Below w.heap.size w w' := by
  have HN := Lib.hid (new_any w)
  unfold NewSaid ptrV at HN
  go_enter Try.func14, Try.ntmps14
  go_upto_region 2 with (go_at_call 10; (with_reducible refine HN.out.mono ?_); rintro e w1 ⟨m1, rfl, T1, b1⟩)
  have HS := Lib.hid (tree_set T1 [98] 1 (by omega))
  unfold SetGot ptrV at HS
  rw [ex1] at HS
  have hB1 : w.heap.size ≤ w1.heap.size := b1.size
  have H1 := Lib.hid b1
  clear HN T1 b1
  go_upto_region 3 with (go_at_call 21; (refine HS.out.mono ?_); rintro e w2 ⟨m2, rfl, T2, u2⟩)
  have HS := Lib.hid (tree_set T2 [97] 2 (by show max 0 cB1.length + 1 ≤ 1000; decide))
  unfold SetGot ptrV at HS
  rw [ex2] at HS
  rw [u2.g] at HS
  have H2 := Lib.hid u2
  clear T2 u2
  go_upto_region 4 with (go_at_call 21; (refine HS.out.mono ?_); rintro e w3 ⟨m3, rfl, T3, u3⟩)
  have u3' := H2.out.trans u3
  have HS := Lib.hid (tree_set T3 [98] 3 (by show max (max 0 cB1.length) cAB.length + 1 ≤ 1000; decide))
  unfold SetGot ptrV at HS
  rw [ex3.1, ex3.2.1, ex3.2.2] at HS
  rw [u3'.g] at HS
  have H3 := Lib.hid u3'
  clear T3 u3 u3' H2
  go_upto_region 5 with (go_at_call 21; (refine HS.out.mono ?_); rintro e w4 ⟨m4, rfl, T4, u4⟩)
  have u4' := H3.out.trans u4
  have HS := Lib.hid (tree_range T4 [] [] 9)
  unfold RangeSaid ptrV at HS
  rw [ex4, u4'.g] at HS
  have HS : Hid (Calls Try.prog 13 #[.pointer (some ⟨m1.g, 0, none⟩), .string ⟨#[]⟩, .string ⟨#[]⟩, .int .i64 9] w4 fun e w' => ∃ v, e = .returned v ∧ Grow PrT 2 prCells w4.heap.size v cAB3 w' ∧ Below w4.heap.size w4 w') := HS
  have HT4 := Lib.hid T4
  have H4 := Lib.hid u4'
  clear T4 u4 u4' H3
  go_upto_region 6 with (go_at_call 13; (with_reducible refine HS.out.mono ?_); rintro e w5 ⟨v5, rfl, hG5, hb5⟩)
  obtain ⟨g5, c5, hv5, _⟩ := hG5.form (by decide)
  have hv5 : v5 = .slice (some ⟨g5, 0, none⟩) 2 c5 := hv5
  subst hv5
  have T5 := HT4.out.grew hb5
  have hap := HT4.out.apart hG5
  have H5 := Lib.hid (H4.out.trans (Turned.of_below hb5))
  have HS := Lib.hid (tree_del T5 [97])
  unfold DelGot ptrV at HS
  rw [ex5.1, ex5.2.1, ex5.2.2] at HS
  rw [H4.out.g] at HS
  have HA := Lib.hid (And.intro hG5 hap)
  clear T5 hap hG5 hb5 HT4 H4
  go_upto_region 7 with (go_at_call 22; (refine HS.out.mono ?_); rintro e w6 ⟨m6, rfl, T6, u6⟩)
  have u6' := H5.out.trans u6
  obtain ⟨hG6, _⟩ := u6.keep HA.out.1 HA.out.2
  have HS := Lib.hid (tree_next T6 [97, 97])
  unfold NextSaid prV ptrV at HS
  rw [ex6, u6'.g] at HS
  have HT6 := Lib.hid T6
  have H6 := Lib.hid u6'
  have HG6 := Lib.hid hG6
  clear T6 u6 u6' hG6 H5 HA
  go_upto_region 8 with (go_at_call 16; (refine HS.out.mono ?_); rintro e w7 ⟨rfl, hb7⟩)
  have hb8 := Below.trans hb7 ((alloc_below w7 (.cells #[.string (bs [98]), .int .i64 3] PrT)).mono hb7.size)
  have T8 := HT6.out.grew hb8
  have G8 := HG6.out.below hb8
  have k0 := G8.cells prCells_len rfl 0 (by decide) 0 _ rfl
  have k1 := G8.cells prCells_len rfl 1 (by decide) 1 _ rfl
  have hB8 := Lib.hid ((H6.out.below hB1).trans (hb8.mono (Nat.le_trans hB1 H6.out.size)))
  have hBx := BlkAt.alloc_new w7 [.string (bs [98]), .int .i64 3] PrT
  have hx0 := hBx.cell (i := 0) rfl
  have hB : Below w.heap.size w (w7.alloc (.cells #[.string (bs [98]), .int .i64 3] PrT)) := H1.out.trans hB8.out
  obtain ⟨gx, hgx⟩ : ∃ gx, gx = w7.heap.size := ⟨_, rfl⟩
  rw [← hgx] at hx0 ⊢
  clear hgx hBx hb8 HG6 HS hb7 G8
  change (w7.alloc (.cells #[.string (bs [98]), .int .i64 3] PrT)).cell? ⟨g5, 0, none⟩ = some (.string (bs [97])) at k0
  change (w7.alloc (.cells #[.string (bs [98]), .int .i64 3] PrT)).cell? ⟨g5, 3, none⟩ = some (.int .i64 3) at k1
  change (w7.alloc (.cells #[.string (bs [98]), .int .i64 3] PrT)).cell? ⟨gx, 0, none⟩ = some (.string (bs [98])) at hx0
  generalize (w7.alloc (.cells #[.string (bs [98]), .int .i64 3] PrT)) = w8 at *
  have HL := Lib.hid (tree_len T8)
  have HD := Lib.hid (tree_depth T8)
  have HR := Lib.hid (tree_right T8 (by decide))
  unfold ptrV at HL HD HR
  unfold DepthGot at HD
  unfold RightSaid at HR
  rw [H6.out.g] at HL HD HR
  have e0 : (bs [97]).toList = [97] := bs_toList _
  have e1 : (bs [98]).toList = [98] := bs_toList _
  have HB := Lib.hid hB
  clear T8 hB hB8 HT6 H6 H1 hB1
  go_wp2_with (first
    | (go_at_call 20; (refine HL.out.mono ?_); rintro e w' ⟨rfl, rfl⟩)
    | (go_at_call 26; (refine HD.out.mono ?_); rintro e w' ⟨d, rfl, hd1, hd2, hd3, rfl⟩; (have hd0 : d = 0 := by { by_cases h : d = 0; exact h; exfalso; have := hd2 h; have h5 : 5 ≤ 5 ^ d := Nat.le_self_pow h 5; have : cB3.length = 1 := rfl; omega }); subst hd0; clear hd1 hd2 hd3)
    | (go_at_call 23; (refine HR.out.mono ?_); rintro e w9 ⟨rfl, hb9⟩))
  go_ret
  exact ⟨rfl, HB.out.trans (hb9.mono HB.out.size)⟩
end Go.Proofs.Yteoibolompiohaa
