/- The law HistFinds, walked. Conditions: as each theorem says. -/
import Derived.Test.YtaahbfcnccmcoaaHistI
namespace Go.Proofs.Ytaahbfcnccmcoaa
open Go.RowKit

/-- What L makes, as a slice. -/
theorem l_at (L : List Ent) (a : Option Addr) (cap : Nat) (w : World) (hL : EntsAt w (.slice a L.length cap) L) (hn : L.length ≤ 1000000) :
    Calls Try.prog 18 #[.slice a L.length cap] w fun e w' => ∃ a2 c2, e = .returned (.slice a2 L.length c2) ∧ L.length ≤ c2 ∧ EntsAt w' (.slice a2 L.length c2) L ∧ Below w.heap.size w w' := by
  refine (l_any L a cap w hL hn).mono ?_
  rintro e w' ⟨v, rfl, hown, hb⟩
  have hl := hown.1
  rcases hown.2 with ⟨rfl, h0⟩ | ⟨g, c, cur, rfl, hg1, hg, hn', hm, hs, hx⟩
  · exact ⟨none, 0, by rw [h0], by omega, ⟨none, 0, by rw [h0], fun i hi => by omega⟩, hb⟩
  · refine ⟨_, c, rfl, hn', ⟨some ⟨g, 0, none⟩, c, rfl, fun i hi => ⟨g, 0, rfl, ?_⟩⟩, hb⟩
    have key : ∀ j, j < 3 → w'.cell? ⟨g, 0 + i * 3 + j, none⟩ = (entCells L[i])[j]? := by
      intro j hj
      rw [Lib.cell_of_heap hg, ← entRow_get L i j hi hj, ← hx, List.getElem?_take, if_pos (by omega), Array.getElem?_toList, Nat.zero_add]
    exact ⟨by simpa [entCells] using key 0 (by omega), by simpa [entCells] using key 1 (by omega), by simpa [entCells] using key 2 (by omega)⟩
theorem few_len (L : List Ent) (h : fewE L = true) : L.length ≤ 200 := by
  unfold fewE at h
  rw [Bool.and_eq_true] at h
  exact of_decide_eq_true h.1
set_option maxRecDepth 100000 in
set_option maxHeartbeats 1600000 in
theorem finds_any (L : List Ent) (a : Option Addr) (cap : Nat) (t : Int × Int) (w : World) (hL : EntsAt w (.slice a L.length cap) L) (hn : L.length ≤ maxLen) (hs : ∀ x ∈ L, x.ok) :
    Calls Try.prog 5 #[.slice a L.length cap, zxidV t] w fun e w' => e = .returned (.bool true) ∧ Below w.heap.size w w' := by
  unfold maxLen at hn
  have Hb1 := Lib.hid ((Below.refl _ w).alloc (Nat.le_refl _) (.cells #[.int .i64 t.1, .int .i64 t.2] 24))
  have Hk := Lib.hid (heap_alloc_new w (.cells #[.int .i64 t.1, .int .i64 t.2] 24))
  have HF := Lib.hid (fun w2 h2 => few_any L a cap w2 h2 hn hs)
  have HN := Lib.hid (fun w2 h2 => find_any L a cap t w2 h2 hn)
  have HRN := Lib.hid (fun a2 c2 w2 h2 => reffind_any L a2 c2 t w2 h2 hn)
  have HLa := Lib.hid (fun w2 h2 => last_any L a cap w2 h2 hn)
  have HRL := Lib.hid (fun a2 c2 w2 h2 => reflast_any L a2 c2 w2 h2 hn)
  have HR := Lib.hid (fun w2 h2 => right_any L a cap w2 h2 hn)
  have HRR := Lib.hid (fun a2 c2 w2 h2 => refright_any L a2 c2 w2 h2 hn)
  have HZ := Lib.hid (fun x w2 => z_any x w2)
  unfold zxidV at HN HRN HLa HRL ⊢
  have HO := Lib.hid (fun w2 (h : Below w.heap.size w w2) => hL.grew h)
  clear hL
  generalize findB L t = fb at *
  generalize findN L t = n at *
  generalize rightL (0, 0) L = rb at *
  generalize lastZ L = lz at *
  go_enter Try.func5, Try.ntmps5
  go_wp2_with (fail)
  refine (HF.out _ (HO.out _ Hb1.out)).mono ?_
  rintro e w1 ⟨rfl, rfl⟩
  by_cases hf : fewE L = true
  · rw [hf]
    have h200 := few_len L hf
    have HLL := Lib.hid (fun w2 h2 => l_at L a cap w2 h2 (by omega))
    clear hf
    go_wp2_with (fail)
    refine (HN.out _ (HO.out _ Hb1.out)).mono ?_
    rintro e w3 ⟨rfl, hb3⟩
    have Hb3 := Lib.hid (Hb1.out.trans (hb3.mono Hb1.out.size))
    have Hk3 := Lib.hid (Grew.at_ hb3 Hk.out)
    have k0 : w3.cell? ⟨w.heap.size, 0, none⟩ = some (.int .i64 t.1) := by rw [Lib.cell_of_heap Hk3.out]; rfl
    have k1 : w3.cell? ⟨w.heap.size, 1, none⟩ = some (.int .i64 t.2) := by rw [Lib.cell_of_heap Hk3.out]; rfl
    have hB : Below w3.heap.size w3 w3.drew := (Below.refl _ w3).drew
    clear hb3
    go_wp2_with (fail)
    go_region_held3 (fun w' => w'.cell? ⟨w.heap.size, 0, none⟩ = some (.int .i64 t.1) ∧ w'.cell? ⟨w.heap.size, 1, none⟩ = some (.int .i64 t.2)) (exact ⟨Grew.cell hB k0, Grew.cell hB k1⟩) (first | (go_at_call 18; (with_reducible refine (HLL.out _ (HO.out _ (Hb3.out.trans (hB.mono Hb3.out.size)))).mono ?_); rintro e wL ⟨aL, cL, rfl, hcL, hEL, hbL⟩; have hB := hB.trans (hbL.mono hB.size)) | (go_at_call 19; (with_reducible refine (HZ.out _ _).mono ?_); rintro e wZ ⟨rfl, hbZ⟩; have hB := hB.trans (hbZ.mono hB.size); try have hEL := hEL.grew hbZ) | (go_at_call 22; (with_reducible refine (HRN.out aL cL _ hEL).mono ?_); rintro e wF ⟨rfl, hbF⟩; have hB := hB.trans (hbF.mono hB.size)))
    all_goals
      as_aux_lemma =>
      have B4 := Lib.hid (Hb3.out.trans (hB.mono Hb3.out.size))
      clear hEL hbF hbL hbZ k0 k1 hB
      go_wp2_with (fail)
      refine (HLa.out _ (HO.out _ B4.out)).mono ?_
      rintro e w5 ⟨rfl, hb5⟩
      have B5 := Lib.hid (B4.out.trans (hb5.mono B4.out.size))
      go_wp2_with (fail)
      refine (HZ.out _ _).mono ?_
      rintro e w6 ⟨rfl, hb6⟩
      have B6 := Lib.hid (B5.out.trans (hb6.mono B5.out.size))
      go_wp2_with (fail)
      refine (HLL.out _ (HO.out _ B6.out)).mono ?_
      rintro e w7 ⟨a7, c7, rfl, hc7, hE7, hb7⟩
      have B7 := Lib.hid (B6.out.trans (hb7.mono B6.out.size))
      go_wp2_with (fail)
      refine (HRL.out _ _ _ hE7).mono ?_
      rintro e w8 ⟨rfl, hb8⟩
      have B8 := Lib.hid (B7.out.trans (hb8.mono B7.out.size))
      clear hb5 hb6 hb7 hb8 hE7
      go_wp2_with (fail)
      refine (HR.out _ (HO.out _ B8.out)).mono ?_
      rintro e w9 ⟨rfl, hb9⟩
      have B9 := Lib.hid (B8.out.trans (hb9.mono B8.out.size))
      go_wp2_with (fail)
      refine (HLL.out _ (HO.out _ B9.out)).mono ?_
      rintro e w10 ⟨a10, c10, rfl, hc10, hE10, hb10⟩
      have B10 := Lib.hid (B9.out.trans (hb10.mono B9.out.size))
      go_wp2_with (fail)
      refine (HRR.out _ _ _ hE10).mono ?_
      rintro e w11 ⟨rfl, hb11⟩
      have B11 := Lib.hid (B10.out.trans (hb11.mono B10.out.size))
      clear hb9 hb10 hb11 hE10
      cases rb <;> cases fb
      all_goals
        go_wp2_with (fail)
        refine (awake_any _).mono ?_
        rintro e w12 ⟨rfl, hb12⟩
        go_wp2
        go_ret
        exact ⟨rfl, B11.out.trans (hb12.mono B11.out.size)⟩
  · as_aux_lemma =>
    rw [Bool.not_eq_true] at hf
    rw [hf]
    go_wp2_with (fail)
    refine (awake_any _).mono ?_
    rintro e w9 ⟨rfl, hb9⟩
    go_wp2
    go_ret
    exact ⟨rfl, Hb1.out.trans (hb9.mono Hb1.out.size)⟩
/-- THE LAW. -/
theorem histFinds_walk (W : World) (v0 v1 : Value) (h0 : IsEnts W v0) (h1 : IsZ v1) :
    Calls Try.prog 5 #[v0, v1] W fun e w' => e = .returned (.bool true) ∧ Below W.heap.size W w' := by
  obtain ⟨L, a, cap, rfl, h1', h2, h3, h4⟩ := h0
  obtain ⟨t, rfl, _, _⟩ := h1
  exact finds_any L a cap t W h3 (Nat.le_trans h1' h2) h4
end Go.Proofs.Ytaahbfcnccmcoaa
