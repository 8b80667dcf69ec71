/- The walk of slices.DeleteFunc over generations. Conditions: as each theorem says. -/
import Derived.Test.YtnliapdhmjljiaaGenCb
namespace Go.Proofs.Ytnliapdhmjljiaa
open Go.RowKit

/-- What holds of the row when j elements have been looked at and i kept. -/
structure KeptG (rev : Int) (L C : List (Gn × Value)) (i j : Nat) : Prop where
  len : C.length = L.length
  lt : i < j
  front : C.take i = (L.take j).filter (keepP rev)
  rest : C.drop j = L.drop j
section
variable {rev : Int} {L C : List (Gn × Value)} {i j : Nat}
theorem KeptG.at (h : KeptG rev L C i j) (hj : j < L.length) : C[j]'(by rw [h.len]; exact hj) = L[j] := by
  have e := congrArg (fun l : List (Gn × Value) => l[0]?) h.rest
  simp only [List.getElem?_drop, Nat.add_zero] at e
  rw [List.getElem?_eq_getElem (by rw [h.len]; exact hj), List.getElem?_eq_getElem hj] at e
  exact Option.some.inj e
theorem KeptG.count (h : KeptG rev L C i j) (hj : j ≤ L.length) : ((L.take j).filter (keepP rev)).length = i := by
  rw [← h.front, List.length_take, h.len]
  have := h.lt
  omega
theorem drop_succ_of {α : Type} {C L : List α} {j : Nat} (h : C.drop j = L.drop j) : C.drop (j + 1) = L.drop (j + 1) := by
  rw [← List.drop_drop (i := 1) (j := j), ← List.drop_drop (i := 1) (j := j), h]
theorem KeptG.skip (h : KeptG rev L C i j) (hj : j < L.length) (hg : goneG rev L[j].1 = true) : KeptG rev L C i (j + 1) := by
  refine ⟨h.len, by have := h.lt; omega, ?_, drop_succ_of h.rest⟩
  rw [List.take_succ_eq_append_getElem hj, List.filter_append, h.front]
  have : keepP rev L[j] = false := by unfold keepP; rw [hg]; rfl
  simp [this]
theorem KeptG.keep (h : KeptG rev L C i j) (hj : j < L.length) (hg : goneG rev L[j].1 = false) : KeptG rev L (C.set i L[j]) (i + 1) (j + 1) := by
  have hlt := h.lt
  have hl := h.len
  refine ⟨by simp [hl], by omega, ?_, ?_⟩
  · rw [List.take_succ_eq_append_getElem (by rw [List.length_set]; omega), List.getElem_set_self, List.take_set_of_le (Nat.le_refl _), h.front, List.take_succ_eq_append_getElem hj, List.filter_append]
    have : keepP rev L[j] = true := by unfold keepP; rw [hg]; rfl
    simp [this]
  · rw [List.drop_set_of_lt (by omega)]
    exact drop_succ_of h.rest
theorem KeptG.start (rev : Int) (L : List (Gn × Value)) (h : firstG rev L < L.length) : KeptG rev L L (firstG rev L) (firstG rev L + 1) := by
  refine ⟨rfl, by omega, ?_, rfl⟩
  have hg : goneG rev (L[firstG rev L]'h).1 = true := by
    cases e : goneG rev (L[firstG rev L]'h).1 with
    | true => rfl
    | false => have := (firstG_step rev L _ h (Nat.le_refl _)).2 e; omega
  rw [List.take_succ_eq_append_getElem h, List.filter_append, firstG_filter rev L _ (Nat.le_refl _)]
  have : keepP rev (L[firstG rev L]'h) = false := by unfold keepP; rw [hg]; rfl
  simp [this]
end
def DelSaid (g cap : Nat) (L : List (Gn × Value)) (rev : Int) (w : World) (e : Ending) (w' : World) : Prop :=
  e = .returned (.slice (some ⟨g, 0, none⟩) (L.filter (keepP rev)).length cap) ∧ RowIn g cap (L.filter (keepP rev)) w' ∧ w.grownBy w' (some g)
theorem RowIn.gens {g cap : Nat} {L : List (Gn × Value)} {w : World} (h : RowIn g cap L w) : GensAt w (some ⟨g, 0, none⟩) L := fun k hk => ⟨g, rfl, h.cells k hk⟩
theorem grown_cell {w w' : World} {g B : Nat} {v : Value} (h : w.grownBy w' (some g)) (hB : w.cell? ⟨B, 0, none⟩ = some v) (hne : B ≠ g) : w'.cell? ⟨B, 0, none⟩ = some v :=
  (World.cell?_of_block (a := ⟨B, 0, none⟩) (h.block B (block_lt_of_cell hB) (fun e => hne (Option.some.inj e)))).trans hB
set_option maxRecDepth 100000 in
set_option maxHeartbeats 1000000 in
theorem delete_any (g cap : Nat) (L : List (Gn × Value)) (rev : Int) (B : Nat) (w : World) (hrow : RowIn g cap L w) (hS : SlicesOf L) (hB : w.cell? ⟨B, 0, none⟩ = some (.int .i64 rev)) (hne : B ≠ g) (hl : L.length ≤ 1000000) (hc : cap ≤ maxLen) (hlc : L.length ≤ cap) :
    Calls Try.prog 30 #[.slice (some ⟨g, 0, none⟩) L.length cap, .func (.func 31) #[] #[.pointer (some ⟨B, 0, none⟩)]] w (DelSaid g cap L rev w) := by
  have HIx := Lib.hid (index38_any (some ⟨g, 0, none⟩) cap L rev B w hrow.gens hS hB hl)
  have HI : idxGV L rev = if firstG rev L = L.length then -1 else (firstG rev L : Int) := rfl
  have hfl := firstG_le rev L
  have HB := Lib.hid hB
  have HS := Lib.hid hS
  have HR := Lib.hid hrow
  unfold maxLen at hc
  clear hB hrow hS
  by_cases hf : firstG rev L = L.length
  · rw [if_pos hf] at HI
    rw [HI] at HIx
    have HF := Lib.hid hf
    clear HI hf hfl
    go_enter Try.func30, Try.ntmps30
    go_wp2_with (go_at_call 38; (with_reducible refine HIx.out.mono ?_); rintro e w1 ⟨rfl, hb1⟩)
    go_ret
    have he := firstG_filter rev L L.length (Nat.le_of_eq HF.out.symm)
    rw [List.take_length] at he
    exact ⟨by rw [he]; rfl, by rw [he]; exact HR.out.grew hb1, grown_below hb1 _⟩
  · rw [if_neg hf] at HI
    rw [HI] at HIx
    have hlt0 : firstG rev L < L.length := by omega
    have hst := KeptG.start rev L hlt0
    have HST := Lib.hid hst
    have hneg : ((firstG rev L : Int) == -1) = false := beq_eq_false_iff_ne.2 (by omega)
    clear HI hf hfl hst
    generalize firstG rev L = k0 at *
    go_enter Try.func30, Try.ntmps30
    go_wp2_with (go_at_call 38; (with_reducible refine HIx.out.mono ?_); rintro e w1 ⟨rfl, hb1⟩)
    go_loopw [5, 6] (fun s5 s6 wr => ∃ (i j : Nat) (C : List (Gn × Value)), s5 = .int .i64 i ∧ s6 = .int .i64 j ∧ j ≤ L.length ∧ KeptG rev L C i j ∧ RowIn g cap C wr ∧ w.grownBy wr (some g)) (fun _ s6 _ => L.length - (intOf s6).toNat)
    case atStart => exact ⟨k0, k0 + 1, L, rfl, by go_num, by omega, HST.out, HR.out.grew hb1, grown_below hb1 _⟩
    case round =>
      obtain ⟨i, j, C, rfl, rfl, hj, hK, hR, hg⟩ := hrel
      have hij := hK.lt
      have hCl := hK.len
      by_cases hlt : j < L.length
      · have hjC : j < C.length := by omega
        have hiC : i < C.length := by omega
        obtain ⟨c0, c1, c2, c3⟩ := hR.cells j hjC
        rw [hK.at hlt] at c0 c1 c2 c3
        obtain ⟨pa, pn, pc, hv⟩ := HS.out j hlt
        rw [hv] at c2
        have hBr := grown_cell hg HB.out hne
        have hA := fun W (hW : Below wr.heap.size wr W) => gone_any L[j].1 pa pn pc rev B W (Grew.cell hW hBr)
        have HA := Lib.hid hA
        have HK := Lib.hid hK
        have HR2 := Lib.hid hR
        have HG := Lib.hid hg
        have hLj : L[j] = (L[j].1, .slice pa pn pc) := by rw [← hv]
        have HLJ := Lib.hid hLj
        have hbox := BlkAt.alloc_new wr [.int .i64 L[j].1.cr, .int .i64 L[j].1.cut, .slice pa pn pc, .int .i64 L[j].1.fin] GnT
        have HBox := Lib.hid hbox
        clear hA hK hR hg hv hLj hbox hBr
        cases hgo : goneG rev L[j].1 with
        | true =>
          have HGo := Lib.hid hgo
          have hA1 := Lib.hid (HA.out _ (alloc_below wr (.cells #[.int .i64 L[j].1.cr, .int .i64 L[j].1.cut, .slice pa pn pc, .int .i64 L[j].1.fin] GnT)))
          rw [hgo] at hA1
          clear hgo HA
          generalize L[j].1 = gn at *
          go_wp2_with (go_at_call 31; (with_reducible refine hA1.out.mono ?_); rintro e w2 ⟨rfl, hb2⟩; have HB2 := Lib.hid ((alloc_below wr _).trans (hb2.mono (by simp))); clear hb2)
          go_roundw
          case rel => exact ⟨i, j + 1, C, rfl, by go_num, by omega, HK.out.skip hlt (by rw [HLJ.out]; exact HGo.out), HR2.out.grew HB2.out, HG.out.trans (grown_below HB2.out _)⟩
          case measure => simp [intOf]; omega
        | false =>
          have HGo := Lib.hid hgo
          have hA1 := Lib.hid (HA.out _ (alloc_below wr (.cells #[.int .i64 L[j].1.cr, .int .i64 L[j].1.cut, .slice pa pn pc, .int .i64 L[j].1.fin] GnT)))
          rw [hgo] at hA1
          clear hgo HA
          generalize L[j].1 = gn at *
          go_wp2_with (go_at_call 31; (with_reducible refine hA1.out.mono ?_); rintro e w2 ⟨rfl, hb2⟩; have hB2 := ((alloc_below wr (.cells #[.int .i64 gn.cr, .int .i64 gn.cut, .slice pa pn pc, .int .i64 gn.fin] GnT)).trans (hb2.mono (by simp))); have HB2 := Lib.hid hB2; have hR3 := HR2.out.grew hB2; have hx := HBox.out.grew hb2; have x0 := hx.cell (i := 0) rfl; have x1 := hx.cell (i := 1) rfl; have x2 := hx.cell (i := 2) rfl; have x3 := hx.cell (i := 3) rfl; obtain ⟨d0, d1, d2, d3⟩ := hR3.cells i hiC; have f0 := hR3.thaw (i * 4); have f1 := hR3.thaw (i * 4 + 1); have f2 := hR3.thaw (i * 4 + 2); have f3 := hR3.thaw (i * 4 + 3); have HR3 := Lib.hid hR3; clear hR3 hx hb2 hB2)
          go_roundw
          case rel =>
            refine ⟨i + 1, j + 1, C.set i (gn, .slice pa pn pc), by go_num, by go_num, by omega, by rw [← HLJ.out]; exact HK.out.keep hlt (by rw [HLJ.out]; exact HGo.out), HR3.out.set i hiC gn _, ?_⟩
            exact ((((HG.out.trans (grown_below HB2.out _)).trans (grown_set _ g _ _)).trans (grown_set _ g _ _)).trans (grown_set _ g _ _)).trans (grown_set _ g _ _)
          case measure => simp [intOf]; omega
      · obtain rfl : j = L.length := by omega
        have hcnt := hK.count (Nat.le_refl _)
        have hfr := hK.front
        rw [List.take_length] at hcnt hfr
        have hiL : i < L.length := hij
        have hRt := hR.take i
        have hbeh := fun vs => hRt.behind vs (i * 4) (by rw [List.length_take]; omega)
        rw [hfr] at hbeh
        have HBeh := Lib.hid hbeh
        have hcl := fun ty => run_clear_gens wr ty g (i * 4) (L.length - i) (cap - i) (fun k hk => by
          have hd : i * 4 + k = (i + k / 4) * 4 + k % 4 := by omega
          have := (hR.cell (i + k / 4) (by omega) (k % 4) (Nat.mod_lt _ (by decide))).1
          rw [hd, this]
          have h4 : k % 4 < 4 := Nat.mod_lt _ (by decide)
          match k % 4, h4 with
          | 0, _ => rfl
          | 1, _ => rfl
          | 2, _ => rfl
          | 3, _ => rfl) (fun k => hR.thaw k)
        have HCnt := Lib.hid hcnt
        have HG := Lib.hid hg
        have HK := Lib.hid hK
        clear hcnt hfr hRt hbeh hR hg hK
        have hi0 : (0 : Int) ≤ (i : Int) := by omega
        have hi1 : (i : Int) ≤ (L.length : Int) := by omega
        have hi2 : (i : Int) ≤ (cap : Int) := by omega
        obtain ⟨vs, hcl1⟩ := hcl 0
        clear hcl
        go_wp2
        go_ret
        exact ⟨by rw [HCnt.out]; rfl, HBeh.out vs, HG.out.trans (grown_sets g vs wr (i * 4))⟩
theorem delete_nil (rev : Int) (B : Nat) (w : World) (hB : w.cell? ⟨B, 0, none⟩ = some (.int .i64 rev)) :
    Calls Try.prog 30 #[.slice none 0 0, .func (.func 31) #[] #[.pointer (some ⟨B, 0, none⟩)]] w fun e w' => e = .returned (.slice none 0 0) ∧ Below w.heap.size w w' := by
  have HIx := Lib.hid (index38_any none 0 [] rev B w (fun k hk => by simp at hk) (fun k hk => by simp at hk) hB (by simp))
  have e : idxGV [] rev = -1 := rfl
  rw [e] at HIx
  simp only [List.length_nil] at HIx
  clear e hB
  go_enter Try.func30, Try.ntmps30
  go_wp2_with (go_at_call 38; (with_reducible refine HIx.out.mono ?_); rintro e w1 ⟨rfl, hb1⟩)
  go_ret
  exact ⟨rfl, hb1⟩
end Go.Proofs.Ytnliapdhmjljiaa
