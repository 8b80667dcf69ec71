/- The walks of row and of the law FrameApart, and how a list of texts that came in is read. Conditions: none. -/
import Derived.Test.YticilbcdpiceaaaToldP
import Derived.SliceStrings
namespace Go.Proofs.Yticilbcdpiceaaa
open Go.RowKit Go.WideShapes Go.ChangeShapes

theorem cells9 : Try.prog.cellsOf 9 = 1 := by kernel_rfl
/-- What is known of a list of texts that came in. -/
def IsStrs (w : World) (v : Value) : Prop := ∃ L, StrsAt w v L ∧ L.length ≤ maxLen ∧ ∀ s ∈ L, s.size ≤ maxLen
theorem open_strs {H : Type} {enc : TypeId × Value → H} {w : World} {r : Reach} {base : Nat} {v : Value} {d : DataW H} {p : List MemPlace}
    (hv : Value.okWide Try.prog w r base 42 v) (h : DataW.Trod enc Try.prog w 0 (fun _ => true) true 42 v d p) : IsStrs w v := by
  obtain ⟨a0, len, cap, rfl⟩ := okWide_slice Try.underlying42 hv
  obtain ⟨fuel, hf⟩ := h
  rcases open_strings Try.underlying42 Try.underlying9 cells9 hf with ⟨hcs, _⟩ | ⟨a, len', cap', ss, hcs, _, hl, hm, hss, _, hc, hs⟩
  · simp [Value.cells] at hcs
    obtain ⟨rfl, rfl, rfl⟩ := hcs
    exact ⟨[], ⟨none, 0, rfl, fun i hi => by simp at hi⟩, by simp, by simp⟩
  · simp [Value.cells] at hcs
    obtain ⟨rfl, rfl, rfl⟩ := hcs
    have hss' : ss.length = cap := by simpa using hss
    have hlen : (ss.take len).length = len := by simp; omega
    refine ⟨ss.take len, ⟨some a, cap, by rw [hlen], fun i hi => ?_⟩, by rw [hlen]; omega, fun s h => hs s (List.mem_of_mem_take h)⟩
    rw [hlen] at hi
    have hci := hc i (by omega)
    obtain ⟨b, off, spot⟩ := a
    have hsp : spot = none := by
      cases spot with
      | none => rfl
      | some x =>
        have h0 := hc 0 (by omega)
        simp [World.cell?, Addr.add] at h0
        split at h0 <;> simp at h0
    subst hsp
    refine ⟨b, off, rfl, ?_⟩
    have ha : (⟨b, off, none⟩ : Addr).add i = ⟨b, off + i, none⟩ := by unfold Addr.add; split <;> simp_all
    rw [ha] at hci
    rw [hci]
    simp [List.getD, hi, show i < ss.length by omega]

/-- The bytes of texts. -/
def bytesOf (L : List ByteArray) : List (List UInt8) := L.map fun s => s.data.toList
theorem bytesOf_inj (A B : List ByteArray) (h : bytesOf A = bytesOf B) : A = B := by
  unfold bytesOf at h
  exact (List.map_inj_right (fun x y h => ByteArray.ext (Array.ext' h))).1 h
/-- Is a row of records right? -/
def okRow (L : List ByteArray) : Bool := decide (L.length ≤ 20 ∧ ∀ s ∈ L, 0 < s.size ∧ s.size ≤ 1000)
def rowB (L : List ByteArray) : ByteArray := ⟨(rowL (bytesOf L)).toArray⟩
def RowSaid (L : List ByteArray) (w : World) (e : Ending) (w' : World) : Prop :=
  Below w.heap.size w w' ∧ ((okRow L = true ∧ e = .returned (.tuple #[.string (rowB L), .bool true])) ∨ (okRow L = false ∧ e = .returned (.tuple #[.string ⟨#[]⟩, .bool false])))
theorem rowB_snoc (L : List ByteArray) (k : Nat) (h : k < L.length) : rowB (L.take k) ++ ⟨(frameL (L[k]).data.toList).toArray⟩ = rowB (L.take (k + 1)) := by
  have e : bytesOf (L.take (k + 1)) = bytesOf (L.take k) ++ [(L[k]).data.toList] := by
    rw [List.take_succ_eq_append_getElem h]
    simp only [bytesOf, List.map_append, List.map_cons, List.map_nil]
  apply ByteArray.ext
  unfold rowB
  rw [e]
  simp [rowL]
theorem bad_at (L : List ByteArray) (k : Nat) (h : k < L.length) (hb : 20 ≤ k ∨ ¬ (0 < (L[k]).size ∧ (L[k]).size ≤ 1000)) : okRow L = false := by
  refine decide_eq_false fun ⟨h1, h2⟩ => ?_
  rcases hb with hb | hb
  · omega
  · exact hb (h2 _ (List.getElem_mem h))

set_option maxRecDepth 100000 in
set_option maxHeartbeats 800000 in
theorem row_any (v : Value) (L : List ByteArray) (w : World) (h : StrsAt w v L) (hL : L.length ≤ maxLen) (hs : ∀ s ∈ L, s.size ≤ maxLen) : Calls Try.prog 24 #[v] w (RowSaid L w) := by
  unfold maxLen at hL
  obtain ⟨a, c, rfl, hc⟩ := h
  have Hc := Lib.hid hc
  have Hs := Lib.hid hs
  clear hc hs
  go_enter Try.func24, Try.ntmps24
  go_wp2
  go_loopw [4, 5] (fun o i wr => ∃ k : Nat, i = .int .i64 k ∧ o = .string (rowB (L.take k)) ∧ k ≤ L.length ∧ k ≤ 20 ∧ (rowB (L.take k)).size ≤ 1008 * k ∧ (∀ j (hj : j < L.length), j < k → 0 < (L[j]).size ∧ (L[j]).size ≤ 1000) ∧ Grew w wr) (fun _ i _ => L.length - (intOf i).toNat)
  case atStart => exact ⟨0, rfl, rfl, by omega, by omega, by simp [rowB, bytesOf, rowL]; decide, fun j _ hj => by omega, Grew.refl _⟩
  case round =>
    obtain ⟨k, rfl, rfl, hk, hk20, hsz, hgood, hb⟩ := hrel
    have Hgood := Lib.hid hgood
    clear hgood
    by_cases hlt : k < L.length
    · by_cases h20 : 20 ≤ k
      · as_aux_lemma =>
        have hbad := Lib.hid (bad_at L k hlt (.inl h20))
        go_wp2
        go_ret2
        exact ⟨hb, .inr ⟨hbad.out, rfl⟩⟩
      obtain ⟨b1, o1, rfl, hx1⟩ := Hc.out k hlt
      have hy1 := hb.cell hx1
      have hga : L.getD k ⟨#[]⟩ = L[k] := by simp [List.getD, hlt]
      rw [hga] at hy1
      have hxm := Hs.out (L[k]) (List.getElem_mem hlt)
      have Hbad := Lib.hid (fun h => bad_at L k hlt (.inr h))
      have hsn := Lib.hid (rowB_snoc L k hlt)
      have hgood2 := Lib.hid (show (0 < (L[k]).size ∧ (L[k]).size ≤ 1000) → ∀ j (hj : j < L.length), j < k + 1 → 0 < (L[j]).size ∧ (L[j]).size ≤ 1000 from fun hx j hj hjk => by
        by_cases e : j = k
        · subst e; exact hx
        · exact Hgood.out j hj (by omega))
      clear hx1 hga
      generalize L[k] = x at *
      have hxm' := hxm
      unfold maxLen at hxm'
      by_cases h1000 : 1000 < x.size
      · as_aux_lemma =>
        have hbad := Lib.hid (Hbad.out (by omega))
        go_wp2
        go_ret2
        exact ⟨hb, .inr ⟨hbad.out, rfl⟩⟩
      by_cases h0 : x.size = 0
      · as_aux_lemma =>
        have hbad := Lib.hid (Hbad.out (by omega))
        obtain rfl := isNone x h0
        clear h0 h1000 hxm hxm' hgood2 Hbad
        go_wp2_with fail
        refine (frame_none _).mono ?_
        rintro e w1 ⟨rfl, rfl⟩
        go_wp2
        go_ret2
        exact ⟨hb, .inr ⟨hbad.out, rfl⟩⟩
      · as_aux_lemma =>
        have hgood3 := Lib.hid (hgood2.out ⟨by omega, by omega⟩)
        have hfl := frame_length x.data.toList
        have hfs : (ByteArray.mk (frameL x.data.toList).toArray).size = 8 + x.size := hfl
        have hfs' : (ByteArray.mk (frameL x.data.toList).toArray).size ≤ 1008 := by omega
        have hnew := congrArg ByteArray.size hsn.out
        rw [ByteArray.size_append, hfs] at hnew
        have hnew2 : (rowB (L.take (k + 1))).size ≤ 1008 * (k + 1) := by omega
        clear hfl hfs hnew
        go_wp2_with fail
        refine (frame_good x (by omega) (by omega) _).mono ?_
        rintro e w1 ⟨rfl, hb1⟩
        generalize ByteArray.mk (frameL x.data.toList).toArray = F at *
        have hE := hsn.out
        generalize rowB (L.take k) = R at *
        go_wp2
        go_roundw
        case rel => exact ⟨k + 1, by go_num, rfl, by omega, by omega, hnew2, hgood3.out, hb.trans hb1⟩
        case measure => simp [intOf]; omega
    · as_aux_lemma =>
      have hk' := Lib.hid (show k = L.length by omega)
      have hok := Lib.hid (show okRow L = true from decide_eq_true ⟨by have := hk'.out; omega, fun s hs => by
        obtain ⟨j, hj, rfl⟩ := List.getElem_of_mem hs
        exact Hgood.out j hj (by have := hk'.out; omega)⟩)
      go_wp2
      go_ret2
      exact ⟨hb, .inl ⟨hok.out, by rw [hk'.out, List.take_length]; rfl⟩⟩

theorem ok_bounds (L : List ByteArray) (h : okRow L = true) : ∀ b ∈ bytesOf L, 1 ≤ b.length ∧ b.length ≤ 65536 := by
  have h2 := (of_decide_eq_true h).2
  intro b hb
  obtain ⟨s, hs, rfl⟩ := List.mem_map.1 hb
  have h3 := h2 s hs
  exact ⟨h3.1, Nat.le_trans h3.2 (by decide)⟩
theorem apart (A B : List ByteArray) (ha : okRow A = true) (hb : okRow B = true) : (sameB A B == ((rowB A).toList == (rowB B).toList)) = true := by
  rw [ByteArray.toList_eq, ByteArray.toList_eq]
  have e : (rowB A).data.toList = (rowB B).data.toList ↔ A = B := by
    constructor
    · intro h
      exact bytesOf_inj _ _ (row_inj _ _ (ok_bounds A ha) (ok_bounds B hb) (by simpa [rowB] using h))
    · intro h; rw [h]
  unfold sameB
  by_cases h : A = B
  · rw [decide_eq_true h, beq_iff_eq.2 (e.2 h)]; rfl
  · rw [decide_eq_false h, beq_eq_false_iff_ne.2 (fun x => h (e.1 x))]; rfl

set_option maxRecDepth 100000 in
set_option maxHeartbeats 800000 in
theorem frameApart_walk (w : World) (v1 v2 : Value) (h1 : IsStrs w v1) (h2 : IsStrs w v2) : Calls Try.prog 10 #[v1, v2] w fun e w' => e = .returned (.bool true) ∧ Below w.heap.size w w' := by
  obtain ⟨A, hA, hA1, hA2⟩ := h1
  obtain ⟨B, hB, hB1, hB2⟩ := h2
  have Ha := Lib.hid hA
  have Hb := Lib.hid hB
  have Ra := Lib.hid (fun W => row_any v1 A W)
  have Rb := Lib.hid (fun W => row_any v2 B W)
  have Sm := Lib.hid (fun W => same_any v1 v2 A B W)
  have HA2 := Lib.hid hA2
  have HB2 := Lib.hid hB2
  clear hA hB hA2 hB2
  go_enter Try.func10, Try.ntmps10
  go_wp2_with fail
  refine (Ra.out _ Ha.out hA1 HA2.out).mono ?_
  rintro e w1 ⟨hb1, ⟨ha, rfl⟩ | ⟨ha, rfl⟩⟩
  · as_aux_lemma =>
    have HA := Lib.hid ha
    clear ha
    go_wp2_with fail
    refine (Rb.out _ (Hb.out.grew hb1) hB1 HB2.out).mono ?_
    rintro e w2 ⟨hb2, ⟨hb, rfl⟩ | ⟨hb, rfl⟩⟩
    · as_aux_lemma =>
      have b2 := hb1.trans (hb2.mono hb1.size)
      have hx := Lib.hid (apart A B HA.out hb)
      clear hb
      have hsame := Lib.hid (Sm.out w2 (Ha.out.grew b2) (Hb.out.grew b2) hA1 hB1)
      go_wp2_with fail
      refine hsame.out.mono ?_
      rintro e w3 ⟨rfl, hb3⟩
      have hy := hx.out
      generalize sameB A B = q at *
      generalize rowB A = x at *
      generalize rowB B = y at *
      go_wp2_with fail
      refine (awake4 _).mono ?_
      rintro e w4 ⟨rfl, hb4⟩
      go_wp2
      go_ret
      have b3 := b2.trans (hb3.mono b2.size)
      exact ⟨rfl, b3.trans (hb4.mono b3.size)⟩
    · as_aux_lemma =>
      clear hb
      have b2 := hb1.trans (hb2.mono hb1.size)
      go_wp2_with fail
      refine (awake4 _).mono ?_
      rintro e w4 ⟨rfl, hb4⟩
      go_wp2
      go_ret
      exact ⟨rfl, b2.trans (hb4.mono b2.size)⟩
  · as_aux_lemma =>
    clear ha
    go_wp2_with fail
    refine (Rb.out _ (Hb.out.grew hb1) hB1 HB2.out).mono ?_
    rintro e w2 ⟨hb2, ⟨hb, rfl⟩ | ⟨hb, rfl⟩⟩
    all_goals
      clear hb
      have b2 := hb1.trans (hb2.mono hb1.size)
      go_wp2_with fail
      refine (awake4 _).mono ?_
      rintro e w4 ⟨rfl, hb4⟩
      go_wp2
      go_ret
      exact ⟨rfl, b2.trans (hb4.mono b2.size)⟩
end Go.Proofs.Yticilbcdpiceaaa
