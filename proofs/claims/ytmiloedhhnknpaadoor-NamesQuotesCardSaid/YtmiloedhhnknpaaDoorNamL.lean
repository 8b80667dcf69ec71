/- The walk of Unquote. Conditions: as each theorem says (the table and strconv's variables as they were laid). -/
import Derived.Test.YtmiloedhhnknpaaDoorNamV
namespace Go.Proofs.YtmiloedhhnknpaaDoor
open Go.RowKit

/-- The signs and escapes read, behind what was read; none: something is no escape. -/
def unqF (E : List UInt8 → List UInt8 × Nat) : Nat → List UInt8 → List UInt8 → Option (List UInt8)
  | 0, _, acc => some acc
  | f + 1, l, acc => if l = [] then some acc else if l.getD 0 0 ≠ 92 then unqF E f (l.drop 1) (acc ++ l.take 1)
    else if (E l).2 = 0 then none else unqF E f (l.drop (E l).2) (acc ++ (E l).1)
/-- What a text in plain signs stands for; 11: it is none. -/
def endU (s : List UInt8) (o : Option (List UInt8)) : List UInt8 × Nat := match o with
  | none => ([], 11)
  | some t => if quoteL t = s then (t, 0) else ([], 11)
def unqL (l : List UInt8) : List UInt8 × Nat := endU l (unqF escP l.length l [])
theorem unqF_nil (E : List UInt8 → List UInt8 × Nat) (f : Nat) (acc : List UInt8) : unqF E f [] acc = some acc := by cases f <;> simp [unqF]
theorem unqF_one (E : List UInt8 → List UInt8 × Nat) (f : Nat) (l acc : List UInt8) (h : l ≠ []) (h1 : l.getD 0 0 ≠ 92) : unqF E (f + 1) l acc = unqF E f (l.drop 1) (acc ++ l.take 1) := by rw [unqF, if_neg h, if_pos h1]
theorem unqF_no (E : List UInt8 → List UInt8 × Nat) (f : Nat) (l acc : List UInt8) (h : l ≠ []) (h1 : ¬ l.getD 0 0 ≠ 92) (h2 : (E l).2 = 0) : unqF E (f + 1) l acc = none := by rw [unqF, if_neg h, if_neg h1, if_pos h2]
theorem unqF_on (E : List UInt8 → List UInt8 × Nat) (f : Nat) (l acc : List UInt8) (h : l ≠ []) (h1 : ¬ l.getD 0 0 ≠ 92) (h2 : ¬ (E l).2 = 0) : unqF E (f + 1) l acc = unqF E f (l.drop (E l).2) (acc ++ (E l).1) := by rw [unqF, if_neg h, if_neg h1, if_neg h2]
theorem encodeRune_le (r : Int) : (Lib.encodeRune r).length ≤ 4 := by
  unfold Lib.encodeRune
  rw [List.length_map]
  exact (Lib.encodeRuneZ_length r).2
/-- An escape is within the text, and no shorter than what it stands for. -/
theorem escP_le (l : List UInt8) : (escP l).2 ≤ l.length ∧ (escP l).1.length ≤ (escP l).2 := by
  unfold escP
  split
  · rename_i h
    split
    · exact ⟨h.2, by simp⟩
    · simp
  · split
    · rename_i hu
      split
      · simp
      · rename_i hi
        have hiL := Lib.indexByte_some (l := l) (c := 125) (o := (Lib.indexByte l 125).toNat) (by omega)
        have hlt := (List.getElem?_eq_some_iff.1 hiL.1).1
        have h3 : 3 ≤ (Lib.indexByte l 125).toNat := by
          generalize (Lib.indexByte l 125).toNat = j at *
          refine Decidable.byContradiction fun hn => ?_
          obtain ⟨t, ht⟩ := hu
          rw [← ht] at hiL
          have h0 := hiL.1
          match j, hn with
          | 0, _ => simp at h0
          | 1, _ => simp at h0
          | 2, _ => simp at h0
          | j + 3, hn => omega
        split
        · refine ⟨by simp only; omega, ?_⟩
          have := encodeRune_le ((puL 2097151 ((l.drop 3).take ((Lib.indexByte l 125).toNat - 3))).1 : Int)
          simp only; omega
        · simp
    · simp

def UnqSaid (p : List UInt8 × Nat) (w : World) (e : Ending) (w' : World) : Prop := e = .returned (.tuple #[.string (bs p.1), .int .i64 (p.2 : Int)]) ∧ Below w.heap.size w w'
def BRel (w : World) (acc : List UInt8) (wr : World) : Prop := BIs w.heap.size w.heap.size acc wr ∧ Below w.heap.size w wr ∧ w.heap.size < wr.heap.size
theorem unq_end (l : List UInt8) (o : Option (List UInt8)) (t : List UInt8) (h : o = some t) : endU l o = if quoteL t = l then (t, 0) else ([], 11) := by rw [h]; rfl

abbrev BIsF (B b : Nat) (l : List UInt8) (w : World) : Prop := Lib.IsBuilderF 35 5 B b (byteCells l) w
theorem batF_kept {B b : Nat} {p : Value} {cs : List Value} {w w' : World} (h : Lib.BuilderAtF 35 5 B b p cs w) (hk : ∀ (g : Nat) (c : Array Value) (t : TypeId) (z : Nat × Nat), w.heap[g]? = some (Obj.cells c t z) → w'.heap[g]? = some (Obj.cells c t z)) : Lib.BuilderAtF 35 5 B b p cs w' := by
  obtain ⟨hB, v, hbk, hown, hne⟩ := h
  refine ⟨hB, v, hk _ _ _ _ hbk, ⟨hown.1, ?_⟩, hne⟩
  rcases hown.2 with h2 | ⟨g, cap, cur, fz, hv, hg, hh, r⟩
  · exact .inl h2
  · exact .inr ⟨g, cap, cur, fz, hv, hg, hk _ _ _ _ hh, r⟩
theorem BIsF.below {B b : Nat} {l : List UInt8} {w w' : World} (h : BIsF B b l w) (hb : Below w.heap.size w w') : BIsF B b l w' := by
  rcases h with h | h
  · exact .inl (batF_kept h fun _ _ _ _ hg => Grew.at_ hb hg)
  · exact .inr (batF_kept h fun _ _ _ _ hg => Grew.at_ hb hg)
theorem stringF_any (B b : Nat) (l : List UInt8) (w : World) (h : BIsF B b l w) (hBw : B ≤ w.heap.size) :
    Calls Tryd.prog 27 #[.pointer (some ⟨b, 0, none⟩)] w fun e w' => e = .returned (.string (bs l)) ∧ BIsF B b l w' ∧ Below B w w' := Tryd.Builder_String_any_f B b l w h hBw
theorem BIs.lt_ {B b : Nat} {l : List UInt8} {w : World} (h : BIs B b l w) : b < w.heap.size := by
  rcases h with h | h
  · exact Lib.BuilderAt.lt h
  · exact Lib.BuilderAt.lt h
set_option maxRecDepth 1000000 in
set_option maxHeartbeats 2000000 in
theorem unquote_any (s : ByteArray) (w : World) (hs : s.size ≤ 1000000) (hD : DebAt w) (hE : ErrAt w) :
    Calls Tryd.prog 20 #[.string s] w fun e w' => UnqSaid (unqL s.data.toList) w e w' := by
  have HR : Hid (unqL s.data.toList = endU s.data.toList (unqF escP s.size s.data.toList [])) := by show _ = _; unfold unqL; rw [Lib.size_eq]
  have HD := Lib.hid hD
  have HE := Lib.hid hE
  have HQ := Lib.hid (fun t X hX hl => quote_any (bs t) X (by rw [bs_size]; exact hl) hX)
  generalize unqL s.data.toList = R at *
  clear hD hE
  go_enter Tryd.func20, Tryd.ntmps20
  go_wp2_with (fail)
  go_loopw [5] (fun v5 wr => ∃ (r : ByteArray) (f : Nat) (acc : List UInt8), v5 = .string r ∧ BRel w acc wr ∧ r.size ≤ f ∧ acc.length + r.size ≤ s.size ∧ Hid (R = endU s.data.toList (unqF escP f r.data.toList acc))) (fun v5 _ => strLen v5)
  case atStart => exact ⟨s, s.size, [], rfl, ⟨Lib.fresh_isBuilder 35 5 w, alloc_below w _, by simp⟩, by omega, by simp, HR⟩
  case round =>
    obtain ⟨r, f, acc, rfl, ⟨hI, hbw, hsz⟩, hf, hle, hR⟩ := hrel
    have hsz' : w.heap.size ≤ wr.heap.size := by omega
    by_cases hp : 0 < r.size
    · have hne := notEmpty r hp
      have Hne : Hid (r.data.toList ≠ []) := by
        have := Lib.size_eq r
        exact List.length_pos_iff.1 (by omega)
      obtain ⟨f', rfl⟩ : ∃ f', f = f' + 1 := ⟨f - 1, by omega⟩
      have HG := Lib.hid (getD_at r 0 hp)
      have hp0 : (0 : Int) < (r.size : Int) := by omega
      have hp1 : (1 : Int) ≤ (r.size : Int) := by omega
      by_cases h92 : r[0].toNat = 92
      · have hb92 : ((r[0].toNat : Int) != 92) = false := by simp; omega
        have HH : Hid (¬ r.data.toList.getD 0 0 ≠ 92) := by
          show ¬ _
          rw [HG.out]
          intro h
          exact h (UInt8.toNat_inj.1 h92)
        have HX := Lib.hid (fun X hX => escape_any r X (by omega) hX)
        unfold EscSaid at HX
        obtain ⟨q1, q2⟩ := escP_le r.data.toList
        rw [← Lib.size_eq] at q1
        have HE1 := Lib.hid (HE.out.below hbw)
        have Hno := Lib.hid (unqF_no escP f' r.data.toList acc Hne.out HH.out)
        have Hon := Lib.hid (unqF_on escP f' r.data.toList acc Hne.out HH.out)
        generalize escP r.data.toList = p at *
        obtain ⟨t, n⟩ := p
        simp only at q1 q2 Hno Hon HX
        clear h92
        by_cases hn : n = 0
        · as_aux_lemma =>
          have HF : Hid (R = ([], 11)) := by show _ = _; rw [hR.out, Hno.out hn]; rfl
          have hn0 : ((n : Int) == 0) = true := by rw [beq_iff_eq]; omega
          clear hn
          go_wp2_with (fail)
          refine (HX.out _ HE1.out).mono ?_
          rintro e w1 ⟨rfl, hb1⟩
          go_wp2
          go_ret2
          exact ⟨by rw [HF.out]; rfl, hbw.trans (hb1.mono hsz')⟩
        · as_aux_lemma =>
          have HF : Hid (R = endU s.data.toList (unqF escP f' (r.data.toList.drop n) (acc ++ t))) := by show _ = _; rw [hR.out, Hon.out hn]
          have hn0 : ((n : Int) == 0) = false := by rw [beq_eq_false_iff_ne]; omega
          have hn1 : 0 < n := by omega
          have hn2 : (n : Int) ≤ (r.size : Int) := by omega
          have Hes : Hid ((r.extract n r.size).size = r.size - n) := by show _ = _; rw [Lib.size_eq, extract_drop, List.length_drop, ← Lib.size_eq]
          have HEX := Lib.hid (extract_drop r n)
          clear hn
          go_wp2_with (fail)
          refine (HX.out _ HE1.out).mono ?_
          rintro e w1 ⟨rfl, hb1⟩
          go_wp2_with (fail)
          have hI1 := BIs.below hI hb1
          have hbw1 := hbw.trans (hb1.mono hsz')
          have hz1 : w.heap.size < w1.heap.size := Nat.lt_of_lt_of_le hsz hb1.size
          refine (writeString_any w.heap.size w.heap.size acc t _ hI1 (by omega) (by omega)).mono ?_
          rintro e w2 ⟨rfl, hI2, hb2, hk2⟩
          have hz2 : w.heap.size < w2.heap.size := BIs.lt_ hI2
          go_wp2
          go_roundw
          case rel => exact ⟨r.extract n r.size, f', acc ++ t, rfl, ⟨hI2, hbw1.trans hb2, hz2⟩, by rw [Hes.out]; omega, by rw [Hes.out, List.length_append]; omega, by show _ = _; rw [HF.out, HEX.out]⟩
          case measure => show (r.extract n r.size).size < r.size; rw [Hes.out]; omega
      · as_aux_lemma =>
        have hb92 : ((r[0].toNat : Int) != 92) = true := by rw [bne_iff_ne]; omega
        have HH : Hid (r.data.toList.getD 0 0 ≠ 92) := by
          show _ ≠ _
          rw [HG.out]
          intro h
          exact h92 (by rw [h]; rfl)
        have HF : Hid (R = endU s.data.toList (unqF escP f' (r.data.toList.drop 1) (acc ++ [r[0]]))) := by
          show _ = _
          rw [hR.out, unqF_one _ _ _ _ Hne.out HH.out]
          have : r.data.toList.take 1 = [r[0]] := by
            have h := drop_at r 0 hp
            rw [List.drop_zero] at h
            rw [h]; rfl
          rw [this]
        have Hes : Hid ((r.extract 1 r.size).size = r.size - 1) := by show _ = _; rw [Lib.size_eq, extract_drop, List.length_drop, ← Lib.size_eq]
        have HEX := Lib.hid (extract_drop r 1)
        have HWB := Lib.hid (writeByte_any w.heap.size w.heap.size acc r[0] wr hI (by omega) hsz')
        clear h92
        go_wp2_with (fail)
        refine HWB.out.mono ?_
        rintro e w2 ⟨rfl, hI2, hb2, hk2⟩
        have hz2 : w.heap.size < w2.heap.size := BIs.lt_ hI2
        go_wp2
        go_roundw
        case rel => exact ⟨r.extract 1 r.size, f', acc ++ [r[0]], rfl, ⟨hI2, hbw.trans hb2, hz2⟩, by rw [Hes.out]; omega, by rw [Hes.out, List.length_append]; simp; omega, by show _ = _; rw [HF.out, HEX.out]⟩
        case measure => show (r.extract 1 r.size).size < r.size; rw [Hes.out]; omega
    · have hz := isNone r (by omega)
      subst hz
      have HF : Hid (R = if quoteL acc = s.data.toList then (acc, 0) else ([], 11)) := by
        show _ = _
        rw [hR.out]
        exact unq_end _ _ _ (unqF_nil _ _ _)
      have hq := HQ.out acc
      rw [bs_data] at hq
      have HQ2 := Lib.hid hq
      have hcmp : ((bs (quoteL acc)).toList == s.toList) = decide (quoteL acc = s.data.toList) := by
        rw [bs_toList, ByteArray.toList_eq]
        by_cases h : quoteL acc = s.data.toList
        · simp [h]
        · simp [h]
      have hal : acc.length ≤ 1000000 := by omega
      have hIF : BIsF w.heap.size w.heap.size acc wr := Lib.IsBuilderF.of hI
      have HS1 := Lib.hid (fun X hX hs => stringF_any w.heap.size w.heap.size acc X hX hs)
      have HIF := Lib.hid hIF
      clear hq hIF
      by_cases hqq : quoteL acc = s.data.toList
      · as_aux_lemma =>
        rw [if_pos hqq] at HF
        rw [decide_eq_true hqq] at hcmp
        clear hqq
        go_wp2_with (fail)
        refine (HS1.out _ HIF.out hsz').mono ?_
        rintro e w1 ⟨rfl, hI1, hb1⟩
        have HI1 := Lib.hid hI1
        clear hI1
        have hbw1 := hbw.trans hb1
        go_wp2_with (fail)
        refine (HQ2.out _ (HD.out.below hbw1) hal).mono ?_
        rintro e w2 ⟨rfl, hb2⟩
        have HI2 := Lib.hid (BIsF.below HI1.out hb2)
        have hbw2 := hbw1.trans (hb2.mono hbw1.size)
        go_wp2_with (fail)
        refine (HS1.out _ HI2.out hbw2.size).mono ?_
        rintro e w3 ⟨rfl, hI3, hb3⟩
        clear hI3
        go_wp2
        go_ret2
        exact ⟨by rw [HF.out]; rfl, hbw2.trans hb3⟩
      · as_aux_lemma =>
        rw [if_neg hqq] at HF
        rw [decide_eq_false hqq] at hcmp
        clear hqq
        go_wp2_with (fail)
        refine (HS1.out _ HIF.out hsz').mono ?_
        rintro e w1 ⟨rfl, hI1, hb1⟩
        clear hI1
        have hbw1 := hbw.trans hb1
        go_wp2_with (fail)
        refine (HQ2.out _ (HD.out.below hbw1) hal).mono ?_
        rintro e w2 ⟨rfl, hb2⟩
        have hbw2 := hbw1.trans (hb2.mono hbw1.size)
        go_wp2
        go_ret2
        exact ⟨by rw [HF.out]; rfl, hbw2⟩
end Go.Proofs.YtmiloedhhnknpaaDoor
