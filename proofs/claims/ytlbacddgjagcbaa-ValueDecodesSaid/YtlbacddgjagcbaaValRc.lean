/- The walks of the reference's Encode at a Propose and a Sync. Conditions: as each theorem says. -/
import Derived.Test.YtlbacddgjagcbaaValRb
import Derived.Test.YtlbacddgjagcbaaValZs
namespace Go.Proofs.Ytlbacddgjagcbaa
open Go.RowKit

set_option maxRecDepth 100000 in
set_option maxHeartbeats 8000000 in
theorem refEnc_prop (x : Ent) (a : Option Addr) (cap : Nat) (hr : zxE x = true) (hx : entOk x) (w : World) (hE : EntsIn w a cap [x]) : Calls Try.prog 38 #[msgV (plM (.prop x)) a cap] w fun e w' => EncSaid (numsL [4] ++ entL x) 0 w e w' := by
  obtain ⟨hx1, hx2, hbl⟩ := hx
  have HR := Lib.hid (fun X hX => refRight_prop x a cap X hX)
  rw [hr] at HR
  have HT := Lib.hid (fun X => refNumW_any 4 ⟨by decide, by decide⟩ X)
  have bT := numL_bd 4 ⟨by decide, by decide⟩
  have H0 : Hid (∀ X, Calls Try.prog 60 #[.agg #[.int .i64 x.e, .int .i64 x.c]] X fun e w' => e = .returned (.string (bs (laidL (x.e, x.c)))) ∧ Below X.heap.size X w') := fun X => refLaid_any (x.e, x.c) hx1 hx2 X
  have b0 := laidL_bd (x.e, x.c) hx1 hx2
  have H1 := Lib.hid (fun X => reftext_any x.b (by omega) X)
  have b1 := textL_bd x.b hbl
  have HO : Hid (numsL [4] ++ entL x = ((numL 4 ++ laidL (x.e, x.c)) ++ textL x.b)) := by show _ = _; simp [numsL, entL, laidL, List.append_assoc]
  rw [HO.out]
  clear HO
  generalize numL 4 = T at *
  generalize laidL (x.e, x.c) = N0 at *
  generalize textL x.b = N1 at *
  have cT := bT
  rw [bs_size] at cT
  have c0 := b0
  rw [bs_size] at c0
  have c1 := b1
  rw [bs_size] at c1
  have s0 : ¬ 9223372036854775807 < (bs T).size + (bs N0).size := by simp only [bs_size]; omega
  have ss0 : ¬ 9223372036854775807 < (bs T).size + (bs N0).size := by simp only [bs_size]; omega
  have s1 : ¬ 9223372036854775807 < (bs T ++ bs N0).size + (bs N1).size := by simp only [bs_append, bs_size, List.length_append]; omega
  have ss1 : ¬ 9223372036854775807 < (bs T).size + (bs N0).size + (bs N1).size := by simp only [bs_size]; omega
  clear cT bT c0 b0 c1 b1
  have hlc := hE.1
  simp only [List.length_cons, List.length_nil, Nat.zero_add] at hlc
  obtain ⟨bb, off, rfl, _⟩ := ents_get hE.2.2.1 0 (by simp)
  unfold msgV msgCells plM at HR ⊢
  simp only [List.length_nil, List.length_cons, Nat.zero_add] at HR ⊢
  obtain ⟨W, hW⟩ : ∃ X, X = w.alloc (.cells #[.int .i64 4, .int .i64 0, .int .i64 0, .int .i64 0, .int .i64 0, .int .i64 0, .int .i64 0, .int .i64 0, .int .i64 0, .int .i64 0, .int .i64 0, .string (bs []), .slice (some ⟨bb, off, none⟩) 1 cap, .bool false, .int .i64 0, .int .i64 0, .int .i64 0] 51) := ⟨_, rfl⟩
  have hB : Below w.heap.size w W := by rw [hW]; exact alloc_below w _
  have hk : W.heap[w.heap.size]? = some (.cells #[.int .i64 4, .int .i64 0, .int .i64 0, .int .i64 0, .int .i64 0, .int .i64 0, .int .i64 0, .int .i64 0, .int .i64 0, .int .i64 0, .int .i64 0, .string (bs []), .slice (some ⟨bb, off, none⟩) 1 cap, .bool false, .int .i64 0, .int .i64 0, .int .i64 0] 51 (0, 0)) := by rw [hW]; exact heap_alloc_new w _
  have HK := Lib.hid (fun X (hX : Below W.heap.size W X) => Grew.at_ hX hk)
  have HE := Lib.hid (fun X (hX : Below W.heap.size W X) => (hE.grew hB).grew hX)
  have HWe := Lib.hid hW
  have HB : Hid (∀ X, Below W.heap.size W X → Below w.heap.size w X) := fun X hX => hB.trans (hX.mono hB.size)
  clear hW hk hB hE
  go_enter Try.func38, Try.ntmps38
  go_upto_region 1 with (fail)
  rw [← HWe.out]
  clear HWe
  generalize hg : w.heap.size = g at *
  have HG := Lib.hid hg
  clear hg
  have hb0 := Below.refl W.heap.size W
  have m0 : W.cell? ⟨g, 0, none⟩ = some (.int .i64 4) := by rw [Lib.cell_of_heap (HK.out _ hb0)]; rfl
  have m1 : W.cell? ⟨g, 1, none⟩ = some (.int .i64 0) := by rw [Lib.cell_of_heap (HK.out _ hb0)]; rfl
  have m2 : W.cell? ⟨g, 2, none⟩ = some (.int .i64 0) := by rw [Lib.cell_of_heap (HK.out _ hb0)]; rfl
  have m3 : W.cell? ⟨g, 3, none⟩ = some (.int .i64 0) := by rw [Lib.cell_of_heap (HK.out _ hb0)]; rfl
  have m4 : W.cell? ⟨g, 4, none⟩ = some (.int .i64 0) := by rw [Lib.cell_of_heap (HK.out _ hb0)]; rfl
  have m5 : W.cell? ⟨g, 5, none⟩ = some (.int .i64 0) := by rw [Lib.cell_of_heap (HK.out _ hb0)]; rfl
  have m6 : W.cell? ⟨g, 6, none⟩ = some (.int .i64 0) := by rw [Lib.cell_of_heap (HK.out _ hb0)]; rfl
  have m7 : W.cell? ⟨g, 7, none⟩ = some (.int .i64 0) := by rw [Lib.cell_of_heap (HK.out _ hb0)]; rfl
  have m8 : W.cell? ⟨g, 8, none⟩ = some (.int .i64 0) := by rw [Lib.cell_of_heap (HK.out _ hb0)]; rfl
  have m9 : W.cell? ⟨g, 9, none⟩ = some (.int .i64 0) := by rw [Lib.cell_of_heap (HK.out _ hb0)]; rfl
  have m10 : W.cell? ⟨g, 10, none⟩ = some (.int .i64 0) := by rw [Lib.cell_of_heap (HK.out _ hb0)]; rfl
  have m11 : W.cell? ⟨g, 11, none⟩ = some (.string (bs [])) := by rw [Lib.cell_of_heap (HK.out _ hb0)]; rfl
  have m12 : W.cell? ⟨g, 12, none⟩ = some (.slice (some ⟨bb, off, none⟩) 1 cap) := by rw [Lib.cell_of_heap (HK.out _ hb0)]; rfl
  have m13 : W.cell? ⟨g, 13, none⟩ = some (.bool false) := by rw [Lib.cell_of_heap (HK.out _ hb0)]; rfl
  have m14 : W.cell? ⟨g, 14, none⟩ = some (.int .i64 0) := by rw [Lib.cell_of_heap (HK.out _ hb0)]; rfl
  have m15 : W.cell? ⟨g, 15, none⟩ = some (.int .i64 0) := by rw [Lib.cell_of_heap (HK.out _ hb0)]; rfl
  have m16 : W.cell? ⟨g, 16, none⟩ = some (.int .i64 0) := by rw [Lib.cell_of_heap (HK.out _ hb0)]; rfl
  go_wp2_with (fail)
  refine (HR.out _ (HE.out _ hb0)).mono ?_
  rintro e w1 ⟨rfl, hb1⟩
  clear m0 m1 m2 m3 m4 m5 m6 m7 m8 m9 m10 m11 m12 m13 m14 m15 m16
  have m0 : w1.cell? ⟨g, 0, none⟩ = some (.int .i64 4) := by rw [Lib.cell_of_heap (HK.out _ hb1)]; rfl
  go_wp2_with (fail)
  refine (HT.out _).mono ?_
  rintro e w2 ⟨rfl, hx2⟩
  have hb2 := hb1.trans (hx2.mono hb1.size)
  clear m0 hx2
  have m0 : w2.cell? ⟨g, 0, none⟩ = some (.int .i64 4) := by rw [Lib.cell_of_heap (HK.out _ hb2)]; rfl
  have m12 : w2.cell? ⟨g, 12, none⟩ = some (.slice (some ⟨bb, off, none⟩) 1 cap) := by rw [Lib.cell_of_heap (HK.out _ hb2)]; rfl
  obtain ⟨_, _, hba, e0, e1, e2⟩ := ents_get (HE.out _ hb2).2.2.1 0 (by simp)
  simp only [Option.some.injEq, Addr.mk.injEq] at hba
  obtain ⟨rfl, rfl, _⟩ := hba
  simp only [Nat.zero_mul, Nat.add_zero, List.getElem_cons_zero] at e0 e1 e2
  go_upto_region 18 with (fail)
  have hex := Grew.all w2
  refine wp_region_grew (by kernel_rfl) (by kernel_rfl) ?_
  repeat (first | go_big_quiet_skip | (go_big_quiet_want; first | (refine quiet_load_mid 48 _ rfl _ _ rfl [.int .i64 x.e, .int .i64 x.c] _ (fun W hW => range2 (Grew.cell hW e0) (Grew.cell hW e1)) Try.underlying48 rfl (by kernel_rfl) ?_; simp only [Act.put, List.setIfInBounds_toArray, List.set_cons_succ, List.set_cons_zero]; go_big_quiet_on) | (refine quiet_load_cell _ _ rfl ⟨g, 12, none⟩ rfl _ _ Try.underlying49 rfl (fun W hW => Grew.cell hW m12) ?_; simp only [Act.put, List.setIfInBounds_toArray, List.set_cons_succ, List.set_cons_zero]; go_big_quiet_on) | (refine quiet_load_cell _ _ rfl ⟨bb, off + 2, none⟩ rfl _ _ Try.underlying9 rfl (fun W hW => Grew.cell hW e2) ?_; simp only [Act.put, List.setIfInBounds_toArray, List.set_cons_succ, List.set_cons_zero]; go_big_quiet_on) | (go_big_quiet_op; first | go_big_quiet_on | (apply Exists.intro; refine ⟨fun W hW => ?_, ?_⟩; (first | exact rfl | (go_at_call 60; with_reducible exact Calls.grew hW (H0.out _)) | (go_at_call 19; with_reducible exact Calls.grew hW (H1.out _))); go_big_quiet_on))))
  refine wpQuiet_nil ?_
  intro w3 hw3
  have hb3 : Below W.heap.size W w3 := hb2.trans (Below.mono (show Below w2.heap.size w2 w3 from hw3) hb2.size)
  clear hex
  go_wp2
  go_ret2
  exact ⟨by simp only [← bs_append]; rfl, by rw [HG.out]; exact HB.out _ hb3⟩
theorem ref_step (L : List Ent) (i : Nat) (hi : i < L.length) : (L.take (i + 1)).flatMap entL = ((L.take i).flatMap entL ++ laidL (L[i].e, L[i].c)) ++ textL L[i].b := by
  rw [ents_step L i hi, List.append_assoc]
  congr 1
  simp [entL, numsL, laidL]
set_option maxRecDepth 100000 in
set_option maxHeartbeats 16000000 in
theorem refEnc_sync (k p : Int) (f z : Int × Int) (b : List UInt8) (L : List Ent) (a : Option Addr) (cap : Nat) (hr : syncB k p f z b L = true) (hk : i64B k) (hp : i64B p) (hf1 : i64B f.1) (hf2 : i64B f.2) (hz1 : i64B z.1) (hz2 : i64B z.2) (hbl : b.length ≤ 1000000) (hl : L.length ≤ 1000) (hes : ∀ x ∈ L, entOk x) (w : World) (hE : EntsIn w a cap L) :
    Calls Try.prog 38 #[msgV (plM (.sync k p f z b L)) a cap] w fun e w' => EncSaid (syncL k p f z b L) 0 w e w' := by
  have HR := Lib.hid (fun X hX => refRight_sync k p f z b L a cap X hX (by unfold maxLen; omega))
  rw [hr] at HR
  have hn64 : i64B (L.length : Int) := ⟨by omega, by omega⟩
  have HT := Lib.hid (fun X => refNumW_any 3 ⟨by decide, by decide⟩ X)
  have bT := numL_bd 3 ⟨by decide, by decide⟩
  have H0 := Lib.hid (fun X => refNumW_any k hk X)
  have b0 := numL_bd k hk
  have H1 := Lib.hid (fun X => refNumW_any p hp X)
  have b1 := numL_bd p hp
  have H2 := Lib.hid (fun X => refLaid_any f hf1 hf2 X)
  have b2 := laidL_bd f hf1 hf2
  have H3 := Lib.hid (fun X => refLaid_any z hz1 hz2 X)
  have b3 := laidL_bd z hz1 hz2
  have H4 := Lib.hid (fun X => reftext_any b (by omega) X)
  have b4 := textL_bd b hbl
  have H5 := Lib.hid (fun X => refNumW_any (L.length : Int) hn64 X)
  have b5 := numL_bd (L.length : Int) hn64
  have HO : Hid (syncHead k p f z b L.length = ((((((numL 3 ++ numL k) ++ numL p) ++ laidL f) ++ laidL z) ++ textL b) ++ numL (L.length : Int))) := by show _ = _; simp [syncHead, numsL, laidL, List.append_assoc]
  have HSL : Hid (syncL k p f z b L = syncHead k p f z b L.length ++ L.flatMap entL) := rfl
  rw [HO.out] at HSL
  generalize syncL k p f z b L = R at *
  clear HO
  generalize numL 3 = T at *
  generalize numL k = N0 at *
  generalize numL p = N1 at *
  generalize laidL f = N2 at *
  generalize laidL z = N3 at *
  generalize textL b = N4 at *
  generalize numL (L.length : Int) = N5 at *
  have hS0 : ((((((T ++ N0) ++ N1) ++ N2) ++ N3) ++ N4) ++ N5).length ≤ 1000100 := by
    rw [bs_size] at bT b0 b1 b2 b3 b4 b5
    simp only [List.length_append]; omega
  have cT := bT
  rw [bs_size] at cT
  have c0 := b0
  rw [bs_size] at c0
  have c1 := b1
  rw [bs_size] at c1
  have c2 := b2
  rw [bs_size] at c2
  have c3 := b3
  rw [bs_size] at c3
  have c4 := b4
  rw [bs_size] at c4
  have c5 := b5
  rw [bs_size] at c5
  have s0 : ¬ 9223372036854775807 < (bs T).size + (bs N0).size := by simp only [bs_size]; omega
  have ss0 : ¬ 9223372036854775807 < (bs T).size + (bs N0).size := by simp only [bs_size]; omega
  have s1 : ¬ 9223372036854775807 < (bs T ++ bs N0).size + (bs N1).size := by simp only [bs_append, bs_size, List.length_append]; omega
  have ss1 : ¬ 9223372036854775807 < (bs T).size + (bs N0).size + (bs N1).size := by simp only [bs_size]; omega
  have s2 : ¬ 9223372036854775807 < (bs T ++ bs N0 ++ bs N1).size + (bs N2).size := by simp only [bs_append, bs_size, List.length_append]; omega
  have ss2 : ¬ 9223372036854775807 < (bs T).size + (bs N0).size + (bs N1).size + (bs N2).size := by simp only [bs_size]; omega
  have s3 : ¬ 9223372036854775807 < (bs T ++ bs N0 ++ bs N1 ++ bs N2).size + (bs N3).size := by simp only [bs_append, bs_size, List.length_append]; omega
  have ss3 : ¬ 9223372036854775807 < (bs T).size + (bs N0).size + (bs N1).size + (bs N2).size + (bs N3).size := by simp only [bs_size]; omega
  have s4 : ¬ 9223372036854775807 < (bs T ++ bs N0 ++ bs N1 ++ bs N2 ++ bs N3).size + (bs N4).size := by simp only [bs_append, bs_size, List.length_append]; omega
  have ss4 : ¬ 9223372036854775807 < (bs T).size + (bs N0).size + (bs N1).size + (bs N2).size + (bs N3).size + (bs N4).size := by simp only [bs_size]; omega
  have s5 : ¬ 9223372036854775807 < (bs T ++ bs N0 ++ bs N1 ++ bs N2 ++ bs N3 ++ bs N4).size + (bs N5).size := by simp only [bs_append, bs_size, List.length_append]; omega
  have ss5 : ¬ 9223372036854775807 < (bs T).size + (bs N0).size + (bs N1).size + (bs N2).size + (bs N3).size + (bs N4).size + (bs N5).size := by simp only [bs_size]; omega
  clear cT bT c0 b0 c1 b1 c2 b2 c3 b3 c4 b4 c5 b5
  have HES := Lib.hid hes
  obtain ⟨f1, f2⟩ := f
  obtain ⟨z1, z2⟩ := z
  unfold zxidV at H2 H3
  simp only at H2 H3
  clear hr hk hp hf1 hf2 hz1 hz2 hbl hn64 hes
  unfold msgV msgCells plM at HR ⊢
  simp only at HR ⊢
  obtain ⟨W, hW⟩ : ∃ X, X = w.alloc (.cells #[.int .i64 3, .int .i64 0, .int .i64 z1, .int .i64 z2, .int .i64 p, .int .i64 0, .int .i64 f1, .int .i64 f2, .int .i64 0, .int .i64 0, .int .i64 k, .string (bs b), .slice a L.length cap, .bool false, .int .i64 0, .int .i64 0, .int .i64 0] 51) := ⟨_, rfl⟩
  have hB : Below w.heap.size w W := by rw [hW]; exact alloc_below w _
  have hk : W.heap[w.heap.size]? = some (.cells #[.int .i64 3, .int .i64 0, .int .i64 z1, .int .i64 z2, .int .i64 p, .int .i64 0, .int .i64 f1, .int .i64 f2, .int .i64 0, .int .i64 0, .int .i64 k, .string (bs b), .slice a L.length cap, .bool false, .int .i64 0, .int .i64 0, .int .i64 0] 51 (0, 0)) := by rw [hW]; exact heap_alloc_new w _
  have HK := Lib.hid (fun X (hX : Below W.heap.size W X) => Grew.at_ hX hk)
  have HE := Lib.hid (fun X (hX : Below W.heap.size W X) => (hE.grew hB).grew hX)
  have HWe := Lib.hid hW
  have HB : Hid (∀ X, Below W.heap.size W X → Below w.heap.size w X) := fun X hX => hB.trans (hX.mono hB.size)
  clear hW hk hB hE
  go_enter Try.func38, Try.ntmps38
  go_upto_region 1 with (fail)
  rw [← HWe.out]
  clear HWe
  generalize hg : w.heap.size = g at *
  have HG := Lib.hid hg
  clear hg
  have hb0 := Below.refl W.heap.size W
  have m0 : W.cell? ⟨g, 0, none⟩ = some (.int .i64 3) := by rw [Lib.cell_of_heap (HK.out _ hb0)]; rfl
  have m1 : W.cell? ⟨g, 1, none⟩ = some (.int .i64 0) := by rw [Lib.cell_of_heap (HK.out _ hb0)]; rfl
  have m2 : W.cell? ⟨g, 2, none⟩ = some (.int .i64 z1) := by rw [Lib.cell_of_heap (HK.out _ hb0)]; rfl
  have m3 : W.cell? ⟨g, 3, none⟩ = some (.int .i64 z2) := by rw [Lib.cell_of_heap (HK.out _ hb0)]; rfl
  have m4 : W.cell? ⟨g, 4, none⟩ = some (.int .i64 p) := by rw [Lib.cell_of_heap (HK.out _ hb0)]; rfl
  have m5 : W.cell? ⟨g, 5, none⟩ = some (.int .i64 0) := by rw [Lib.cell_of_heap (HK.out _ hb0)]; rfl
  have m6 : W.cell? ⟨g, 6, none⟩ = some (.int .i64 f1) := by rw [Lib.cell_of_heap (HK.out _ hb0)]; rfl
  have m7 : W.cell? ⟨g, 7, none⟩ = some (.int .i64 f2) := by rw [Lib.cell_of_heap (HK.out _ hb0)]; rfl
  have m8 : W.cell? ⟨g, 8, none⟩ = some (.int .i64 0) := by rw [Lib.cell_of_heap (HK.out _ hb0)]; rfl
  have m9 : W.cell? ⟨g, 9, none⟩ = some (.int .i64 0) := by rw [Lib.cell_of_heap (HK.out _ hb0)]; rfl
  have m10 : W.cell? ⟨g, 10, none⟩ = some (.int .i64 k) := by rw [Lib.cell_of_heap (HK.out _ hb0)]; rfl
  have m11 : W.cell? ⟨g, 11, none⟩ = some (.string (bs b)) := by rw [Lib.cell_of_heap (HK.out _ hb0)]; rfl
  have m12 : W.cell? ⟨g, 12, none⟩ = some (.slice a L.length cap) := by rw [Lib.cell_of_heap (HK.out _ hb0)]; rfl
  have m13 : W.cell? ⟨g, 13, none⟩ = some (.bool false) := by rw [Lib.cell_of_heap (HK.out _ hb0)]; rfl
  have m14 : W.cell? ⟨g, 14, none⟩ = some (.int .i64 0) := by rw [Lib.cell_of_heap (HK.out _ hb0)]; rfl
  have m15 : W.cell? ⟨g, 15, none⟩ = some (.int .i64 0) := by rw [Lib.cell_of_heap (HK.out _ hb0)]; rfl
  have m16 : W.cell? ⟨g, 16, none⟩ = some (.int .i64 0) := by rw [Lib.cell_of_heap (HK.out _ hb0)]; rfl
  go_wp2_with (fail)
  refine (HR.out _ (HE.out _ hb0)).mono ?_
  rintro e w1 ⟨rfl, hb1⟩
  clear m0 m1 m2 m3 m4 m5 m6 m7 m8 m9 m10 m11 m12 m13 m14 m15 m16
  have m0 : w1.cell? ⟨g, 0, none⟩ = some (.int .i64 3) := by rw [Lib.cell_of_heap (HK.out _ hb1)]; rfl
  go_wp2_with (fail)
  refine (HT.out _).mono ?_
  rintro e w2 ⟨rfl, hx2⟩
  have hb2 := hb1.trans (hx2.mono hb1.size)
  clear m0 hx2
  have m0 : w2.cell? ⟨g, 0, none⟩ = some (.int .i64 3) := by rw [Lib.cell_of_heap (HK.out _ hb2)]; rfl
  have m2 : w2.cell? ⟨g, 2, none⟩ = some (.int .i64 z1) := by rw [Lib.cell_of_heap (HK.out _ hb2)]; rfl
  have m3 : w2.cell? ⟨g, 3, none⟩ = some (.int .i64 z2) := by rw [Lib.cell_of_heap (HK.out _ hb2)]; rfl
  have m4 : w2.cell? ⟨g, 4, none⟩ = some (.int .i64 p) := by rw [Lib.cell_of_heap (HK.out _ hb2)]; rfl
  have m6 : w2.cell? ⟨g, 6, none⟩ = some (.int .i64 f1) := by rw [Lib.cell_of_heap (HK.out _ hb2)]; rfl
  have m7 : w2.cell? ⟨g, 7, none⟩ = some (.int .i64 f2) := by rw [Lib.cell_of_heap (HK.out _ hb2)]; rfl
  have m10 : w2.cell? ⟨g, 10, none⟩ = some (.int .i64 k) := by rw [Lib.cell_of_heap (HK.out _ hb2)]; rfl
  have m11 : w2.cell? ⟨g, 11, none⟩ = some (.string (bs b)) := by rw [Lib.cell_of_heap (HK.out _ hb2)]; rfl
  have m12 : w2.cell? ⟨g, 12, none⟩ = some (.slice a L.length cap) := by rw [Lib.cell_of_heap (HK.out _ hb2)]; rfl
  go_upto_region 12 with (fail)
  have hex := Grew.all w2
  refine wp_region_grew (by kernel_rfl) (by kernel_rfl) ?_
  repeat (first | go_big_quiet_skip | (go_big_quiet_want; first | (refine quiet_load_mid 48 _ rfl _ _ rfl [.int .i64 f1, .int .i64 f2] _ (fun W hW => range2 (Grew.cell hW m6) (Grew.cell hW m7)) Try.underlying48 rfl (by kernel_rfl) ?_; simp only [Act.put, List.setIfInBounds_toArray, List.set_cons_succ, List.set_cons_zero]; go_big_quiet_on) | (refine quiet_load_mid 48 _ rfl _ _ rfl [.int .i64 z1, .int .i64 z2] _ (fun W hW => range2 (Grew.cell hW m2) (Grew.cell hW m3)) Try.underlying48 rfl (by kernel_rfl) ?_; simp only [Act.put, List.setIfInBounds_toArray, List.set_cons_succ, List.set_cons_zero]; go_big_quiet_on) | (refine quiet_load_cell _ _ rfl ⟨g, 12, none⟩ rfl _ _ Try.underlying49 rfl (fun W hW => Grew.cell hW m12) ?_; simp only [Act.put, List.setIfInBounds_toArray, List.set_cons_succ, List.set_cons_zero]; go_big_quiet_on) | (refine quiet_load_cell _ _ rfl ⟨g, 10, none⟩ rfl _ _ Try.underlying3 rfl (fun W hW => Grew.cell hW m10) ?_; simp only [Act.put, List.setIfInBounds_toArray, List.set_cons_succ, List.set_cons_zero]; go_big_quiet_on) | (refine quiet_load_cell _ _ rfl ⟨g, 4, none⟩ rfl _ _ Try.underlying3 rfl (fun W hW => Grew.cell hW m4) ?_; simp only [Act.put, List.setIfInBounds_toArray, List.set_cons_succ, List.set_cons_zero]; go_big_quiet_on) | (refine quiet_load_cell _ _ rfl ⟨g, 11, none⟩ rfl _ _ Try.underlying9 rfl (fun W hW => Grew.cell hW m11) ?_; simp only [Act.put, List.setIfInBounds_toArray, List.set_cons_succ, List.set_cons_zero]; go_big_quiet_on) | (go_big_quiet_op; first | go_big_quiet_on | (apply Exists.intro; refine ⟨fun W hW => ?_, ?_⟩; (first | exact rfl | (go_at_call 59; with_reducible exact Calls.grew hW (H0.out _)) | (go_at_call 59; with_reducible exact Calls.grew hW (H1.out _)) | (go_at_call 59; with_reducible exact Calls.grew hW (H5.out _)) | (go_at_call 60; with_reducible exact Calls.grew hW (H2.out _)) | (go_at_call 60; with_reducible exact Calls.grew hW (H3.out _)) | (go_at_call 19; with_reducible exact Calls.grew hW (H4.out _))); go_big_quiet_on))))
  refine wpQuiet_nil ?_
  intro w3 hw3
  have hb3 : Below W.heap.size W w3 := hb2.trans (Below.mono (show Below w2.heap.size w2 w3 from hw3) hb2.size)
  have HS0 : Hid (bs T ++ bs N0 ++ bs N1 ++ bs N2 ++ bs N3 ++ bs N4 ++ bs N5 = bs ((((((T ++ N0) ++ N1) ++ N2) ++ N3) ++ N4) ++ N5)) := by show _ = _; simp only [← bs_append]
  rw [HS0.out]
  generalize ((((((T ++ N0) ++ N1) ++ N2) ++ N3) ++ N4) ++ N5) = S0 at *
  have m12 : w3.cell? ⟨g, 12, none⟩ = some (.slice a L.length cap) := by rw [Lib.cell_of_heap (HK.out _ hb3)]; rfl
  have m0 : w3.cell? ⟨g, 0, none⟩ = some (.int .i64 3) := by rw [Lib.cell_of_heap (HK.out _ hb3)]; rfl
  clear hex hw3 HS0 H0 H1 H2 H3 H4 H5 HT HR hb0 hb1 hb2 s0 s1 s2 s3 s4 s5 ss0 ss1 ss2 ss3 ss4 ss5 m2 m3 m4 m6 m7 m10 m11
  go_wp2_with (fail)
  go_loopw [4, 5] (fun v4 v5 wr => ∃ (i : Nat), v5 = .int .i64 (i : Int) ∧ i ≤ L.length ∧ v4 = .string (bs (S0 ++ (L.take i).flatMap entL)) ∧ Below W.heap.size W wr) (fun _ v5 _ => L.length - (intOf v5).toNat)
  case atStart => exact ⟨0, rfl, by omega, by simp, hb3⟩
  case round =>
    obtain ⟨i, rfl, hi, rfl, hb⟩ := hrel
    clear m12 m0 hb3
    have m12 : wr.cell? ⟨g, 12, none⟩ = some (.slice a L.length cap) := by rw [Lib.cell_of_heap (HK.out _ hb)]; rfl
    by_cases hp : i < L.length
    · as_aux_lemma =>
      obtain ⟨bb, off, rfl, e0, e1, e2⟩ := ents_get (HE.out _ hb).2.2.1 i hp
      have hx := HES.out _ (List.getElem_mem hp)
      have hlen : (S0 ++ (L.take i).flatMap entL).length ≤ 1000100 + 1000 * 1000030 := by
        have := ents_len (L.take i) (fun y hy => HES.out y (List.mem_of_mem_take hy))
        rw [List.length_take] at this
        rw [List.length_append]
        omega
      have HST := Lib.hid (ref_step L i hp)
      have H0 : Hid (∀ X, Calls Try.prog 60 #[.agg #[.int .i64 L[i].e, .int .i64 L[i].c]] X fun e w' => e = .returned (.string (bs (laidL (L[i].e, L[i].c)))) ∧ Below X.heap.size X w') := fun X => refLaid_any (L[i].e, L[i].c) hx.1 hx.2.1 X
      have b0 := laidL_bd (L[i].e, L[i].c) hx.1 hx.2.1
      have H1 := Lib.hid (fun X => reftext_any L[i].b (by have := hx.2.2; omega) X)
      have b1 := textL_bd L[i].b hx.2.2
      generalize L[i] = x at *
      generalize laidL (x.e, x.c) = N0 at *
      generalize textL x.b = N1 at *
      have HAS : Hid (S0 ++ (L.take (i + 1)).flatMap entL = ((S0 ++ (L.take i).flatMap entL) ++ N0) ++ N1) := by show _ = _; rw [HST.out]; simp only [List.append_assoc]
      generalize S0 ++ (L.take i).flatMap entL = T at *
      rw [bs_size] at b0 b1
      have s0 : ¬ 9223372036854775807 < (bs T).size + (bs N0).size := by simp only [bs_size]; omega
      have s1 : ¬ 9223372036854775807 < (bs T ++ bs N0).size + (bs N1).size := by simp only [bs_append, bs_size, List.length_append]; omega
      have s2 : ¬ 9223372036854775807 < (bs T).size + (bs N0).size + (bs N1).size := by simp only [bs_size]; omega
      clear hx b0 b1 hlen HST HES HE
      go_wp2_with (fail)
      have hex := Grew.all wr
      refine wp_region_grew (by kernel_rfl) (by kernel_rfl) ?_
      repeat (first | go_big_quiet_skip | (go_big_quiet_want; first | (refine quiet_load_mid 48 _ rfl _ _ rfl [.int .i64 x.e, .int .i64 x.c] _ (fun W hW => range2 (Grew.cell hW e0) (Grew.cell hW e1)) Try.underlying48 rfl (by kernel_rfl) ?_; simp only [Act.put, List.setIfInBounds_toArray, List.set_cons_succ, List.set_cons_zero]; go_big_quiet_on) | (refine quiet_load_cell _ _ rfl ⟨g, 12, none⟩ rfl _ _ Try.underlying49 rfl (fun W hW => Grew.cell hW m12) ?_; simp only [Act.put, List.setIfInBounds_toArray, List.set_cons_succ, List.set_cons_zero]; go_big_quiet_on) | (refine quiet_load_cell _ _ rfl ⟨bb, off + i * 3 + 2, none⟩ rfl _ _ Try.underlying9 rfl (fun W hW => Grew.cell hW e2) ?_; simp only [Act.put, List.setIfInBounds_toArray, List.set_cons_succ, List.set_cons_zero]; go_big_quiet_on) | (go_big_quiet_op; first | go_big_quiet_on | (apply Exists.intro; refine ⟨fun W hW => ?_, ?_⟩; (first | exact rfl | (go_at_call 60; with_reducible exact Calls.grew hW (H0.out _)) | (go_at_call 19; with_reducible exact Calls.grew hW (H1.out _))); go_big_quiet_on))))
      refine wpQuiet_nil ?_
      intro w4 hw4
      have hb4 : Below W.heap.size W w4 := hb.trans (Below.mono (show Below wr.heap.size wr w4 from hw4) hb.size)
      clear hex
      go_wp2
      go_roundw
      case rel => exact ⟨i + 1, by go_num, by omega, by rw [HAS.out]; simp only [← bs_append], hb4⟩
      case measure => simp [intOf]; omega
    · as_aux_lemma =>
      rw [List.take_of_length_le (by omega)]
      go_wp2
      go_ret2
      exact ⟨by rw [HSL.out]; rfl, by rw [HG.out]; exact HB.out _ hb⟩
end Go.Proofs.Ytlbacddgjagcbaa
