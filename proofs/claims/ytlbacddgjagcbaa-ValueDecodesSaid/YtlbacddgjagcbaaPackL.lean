/- The walks of packed texts and lists as they are written, and of the law's own helpers. Conditions: as each theorem says. -/
import Derived.Test.YtlbacddgjagcbaaPackW
import Derived.Test.YtlbacddgjagcbaaBuild
import Derived.Test.YtlbacddgjagcbaaPackQ
namespace Go.Proofs.Ytlbacddgjagcbaa
open Go.RowKit

theorem numSize (n : Int) (h1 : -9223372036854775808 ≤ n) (h2 : n ≤ 9223372036854775807) : (bs (numL n)).size ≤ 10 := by
  rw [bs_size]; exact vb_len10 _ (zig_lt n h1 h2)
set_option maxRecDepth 100000 in
theorem text_any (s : List UInt8) (hs : s.length ≤ 4611686018427387903) (w : World) :
    Calls Try.prog 18 #[.string (bs s)] w fun e w' => e = .returned (.string (bs (textL s))) ∧ Below w.heap.size w w' := by
  have h1 := bs_size s
  have h2 := numSize (s.length : Int) (by omega) (by omega)
  go_enter Try.func18, Try.ntmps18
  go_wp2_with (go_at_call 20; refine (num_any _ (by omega) (by omega) _).mono ?_; rintro e w1 ⟨rfl, hb⟩)
  have h3 : ¬ (9223372036854775807 < (bs (numL ↑s.length)).size + s.length) := by omega
  have h4 : bs (numL ↑s.length) ++ bs s = bs (textL s) := bs_append _ _
  generalize bs (numL ↑s.length) = q at *
  go_wp2
  go_ret
  exact ⟨by rw [h4]; rfl, hb⟩
set_option maxRecDepth 100000 in
theorem reftext_any (s : List UInt8) (hs : s.length ≤ 4611686018427387903) (w : World) :
    Calls Try.prog 19 #[.string (bs s)] w fun e w' => e = .returned (.string (bs (textL s))) ∧ Below w.heap.size w w' := by
  have h1 := bs_size s
  have h2 := numSize (s.length : Int) (by omega) (by omega)
  go_enter Try.func19, Try.ntmps19
  go_wp2_with (go_at_call 21; refine (refnum_any _ (by omega) (by omega) _).mono ?_; rintro e w1 ⟨rfl, hb⟩)
  have h3 : ¬ (9223372036854775807 < (bs (numL ↑s.length)).size + s.length) := by omega
  have h4 : bs (numL ↑s.length) ++ bs s = bs (textL s) := bs_append _ _
  generalize bs (numL ↑s.length) = q at *
  go_wp2
  go_ret
  exact ⟨by rw [h4]; rfl, hb⟩
theorem textL_len (s : List UInt8) (hs : s.length ≤ 9223372036854775807) : (textL s).length ≤ 10 + s.length := by
  unfold textL numL
  have := vb_len10 (zig s.length) (zig_lt _ (by omega) (by omega))
  simp; omega
theorem flat_take (L : List (List UInt8)) (i : Nat) (hi : i < L.length) : (L.take (i + 1)).flatMap textL = (L.take i).flatMap textL ++ textL L[i] := by
  rw [List.take_succ_eq_append_getElem hi, List.flatMap_append]; congr 1; rw [List.flatMap_cons, List.flatMap_nil, List.append_nil]
theorem flat_take_len (L : List (List UInt8)) (i : Nat) : ((L.take i).flatMap textL).length ≤ (L.flatMap textL).length := by
  have h : L.flatMap textL = (L.take i).flatMap textL ++ (L.drop i).flatMap textL := by rw [← List.flatMap_append, List.take_append_drop]
  rw [h]; simp

theorem isb_below {T e : TypeId} {B b : Nat} {cs : List Value} {w w1 : World} (h : Lib.IsBuilder T e B b cs w) (hb : Below w.heap.size w w1) : Lib.IsBuilder T e B b cs w1 := by
  rcases h with ⟨h1, v, h2, h3, h4⟩ | ⟨h1, v, h2, h3, h4⟩
  · exact .inl ⟨h1, v, Grew.at_ hb h2, own_below h3 hb, h4⟩
  · exact .inr ⟨h1, v, Grew.at_ hb h2, own_below h3 hb, h4⟩
/-- What the writer of lists has so far. -/
def ListInv (L : List (List UInt8)) (i : Nat) : List UInt8 := numL L.length ++ (L.take i).flatMap textL
theorem ListInv.zero (L : List (List UInt8)) : ListInv L 0 = numL L.length := by unfold ListInv; simp
theorem ListInv.step (L : List (List UInt8)) (i : Nat) (hi : i < L.length) : ListInv L (i + 1) = ListInv L i ++ textL L[i] := by unfold ListInv; rw [flat_take L i hi, List.append_assoc]
theorem ListInv.all (L : List (List UInt8)) : ListInv L L.length = listL L := by unfold ListInv listL; rw [List.take_length]
theorem ListInv.le (L : List (List UInt8)) (i : Nat) : (ListInv L i).length ≤ (listL L).length := by
  unfold ListInv listL; have := flat_take_len L i; simp only [List.length_append]; omega

set_option maxRecDepth 100000 in
set_option maxHeartbeats 400000 in
theorem list_any (L : List (List UInt8)) (a : Option Addr) (cap : Nat) (w : World) (hL : StrsAt w (.slice a L.length cap) L) (hn : L.length ≤ 9223372036854775807) (hs : ∀ s ∈ L, s.length ≤ 4611686018427387903) (hsum : (listL L).length ≤ 140737488355328) :
    Calls Try.prog 22 #[.slice a L.length cap] w fun e w' => e = .returned (.string (bs (listL L))) ∧ Below w.heap.size w w' := by
  have hle := ListInv.le L
  have h00 := ListInv.zero L
  have hstep := ListInv.step L
  have hall := ListInv.all L
  generalize hI : ListInv L = I at *
  have Hstep := Lib.hid hstep
  have Hall := Lib.hid hall
  have Hle := Lib.hid hle
  clear hstep hall hle hI
  go_enter Try.func22, Try.ntmps22
  go_wp2_with (first
    | (go_at_call 20; refine (num_any _ (by omega) (by omega) _).mono ?_; rintro e w1 ⟨rfl, hb⟩)
    | fail)
  have hb0 : Below w.heap.size w w1 := ((Below.refl _ w).alloc (Nat.le_refl _) _).trans (hb.mono (by simp))
  have hB1 : Lib.IsBuilder 85 5 w.heap.size w.heap.size (byteCells []) w1 := isb_below (Lib.fresh_isBuilder _ _ w) hb
  rw [← h00]
  have hl0 := Hle.out 0
  refine (writeString_any w.heap.size w.heap.size [] (I 0) w1 hB1 (by simp; omega) hb0.size).mono ?_
  rintro e w2 ⟨rfl, hB2, hb2⟩
  have hb3 : Below w.heap.size w w2 := hb0.trans hb2
  clear hB1 hb hb0 hb2 h00
  generalize bs (I 0) = s0
  go_wp2
  go_loopw [12] (fun vi wr => ∃ (i : Nat), vi = .int .i64 i ∧ i ≤ L.length ∧ Lib.IsBuilder 85 5 w.heap.size w.heap.size (byteCells (I i)) wr ∧ Below w.heap.size w wr) (fun vi _ => L.length - (intOf vi).toNat)
  case atStart => exact ⟨0, rfl, by omega, by simpa using hB2, hb3⟩
  case round =>
    obtain ⟨i, rfl, hi, hBr, hbr⟩ := hrel
    by_cases h : i < L.length
    · as_aux_lemma =>
      obtain ⟨bb, off, rfl, hcell⟩ := strs_get (hL.grew hbr) i h
      have hsi := hs _ (List.getElem_mem h)
      have Hst := Lib.hid (Hstep.out i h)
      have hli := Hle.out (i + 1)
      have hli2 : (I i).length + (textL L[i]).length = (I (i + 1)).length := by rw [Hst.out, List.length_append]
      go_wp2_with (first
        | (go_at_call 18; refine (text_any _ hsi _).mono ?_; rintro e w4 ⟨rfl, hb4⟩)
        | fail)
      refine (writeString_any w.heap.size w.heap.size _ _ w4 (isb_below hBr hb4) (by omega) (Nat.le_trans hbr.size hb4.size)).mono ?_
      rintro e w5 ⟨rfl, hB5, hb5⟩
      rw [← Hst.out] at hB5
      have hb6 : Below w.heap.size w w5 := (hbr.trans (hb4.mono hbr.size)).trans hb5
      clear hcell
      generalize (bs (textL L[i])) = s1
      go_wp2
      go_roundw
      case rel => exact ⟨i + 1, by go_num, by omega, hB5, hb6⟩
      case measure => simp [intOf]; omega
    · as_aux_lemma =>
      obtain rfl : i = L.length := by omega
      have hal := Hall.out
      rw [hal] at hBr
      go_wp2_with (first
        | (go_at_call 50; refine (builderString_any _ _ _ _ hBr hbr.size).mono ?_; rintro e w4 ⟨rfl, hb4⟩)
        | fail)
      go_wp2
      go_ret
      exact ⟨rfl, hbr.trans hb4⟩

set_option maxRecDepth 100000 in
set_option maxHeartbeats 400000 in
theorem reflist_any (L : List (List UInt8)) (a : Option Addr) (cap : Nat) (w : World) (hL : StrsAt w (.slice a L.length cap) L) (hn : L.length ≤ 9223372036854775807) (hs : ∀ s ∈ L, s.length ≤ 4611686018427387903) (hsum : (listL L).length ≤ 140737488355328) :
    Calls Try.prog 23 #[.slice a L.length cap] w fun e w' => e = .returned (.string (bs (listL L))) ∧ Below w.heap.size w w' := by
  have hle := ListInv.le L
  have h00 := ListInv.zero L
  have hstep := ListInv.step L
  have hall := ListInv.all L
  generalize hI : ListInv L = I at *
  have Hstep := Lib.hid hstep
  have Hall := Lib.hid hall
  have Hle := Lib.hid hle
  clear hstep hall hle hI
  go_enter Try.func23, Try.ntmps23
  go_wp2_with (first
    | (go_at_call 21; refine (refnum_any _ (by omega) (by omega) _).mono ?_; rintro e w1 ⟨rfl, hb⟩)
    | fail)
  rw [← h00]
  clear h00
  go_wp2
  go_loopw [3, 4] (fun sv vi wr => ∃ (i : Nat), vi = .int .i64 i ∧ i ≤ L.length ∧ sv = .string (bs (I i)) ∧ Below w.heap.size w wr) (fun _ vi _ => L.length - (intOf vi).toNat)
  case atStart => exact ⟨0, rfl, by omega, rfl, hb⟩
  case round =>
    obtain ⟨i, rfl, hi, rfl, hbr⟩ := hrel
    by_cases h : i < L.length
    · as_aux_lemma =>
      obtain ⟨bb, off, rfl, hcell⟩ := strs_get (hL.grew hbr) i h
      have hsi := hs _ (List.getElem_mem h)
      have Hst := Lib.hid (Hstep.out i h)
      have hli := Hle.out (i + 1)
      have hli2 : (I i).length + (textL L[i]).length = (I (i + 1)).length := by rw [Hst.out, List.length_append]
      have h3 : (bs (I i)).size + (bs (textL L[i])).size ≤ 140737488355328 := by rw [bs_size, bs_size]; omega
      have h4 : bs (I i) ++ bs (textL L[i]) = bs (I (i + 1)) := by rw [bs_append, Hst.out]
      have H4 := Lib.hid h4
      clear h4
      go_wp2_with (first
        | (go_at_call 19; refine (reftext_any _ hsi _).mono ?_; rintro e w4 ⟨rfl, hb4⟩)
        | fail)
      have hb6 : Below w.heap.size w w4 := hbr.trans (hb4.mono hbr.size)
      go_roundw
      case rel => exact ⟨i + 1, by go_num, by omega, by rw [H4.out], hb6⟩
      case measure => simp [intOf]; omega
    · as_aux_lemma =>
      obtain rfl : i = L.length := by omega
      have hal := Hall.out
      rw [hal]
      go_wp2
      go_ret
      exact ⟨rfl, hbr⟩

theorem str_eq (a b : List UInt8) : (bs a = bs b) = (a = b) := propext ⟨bs_inj, fun h => by rw [h]⟩
set_option maxRecDepth 100000 in
set_option maxHeartbeats 400000 in
theorem same_any (A B : List (List UInt8)) (a b : Option Addr) (ca cb : Nat) (w : World) (hA : StrsAt w (.slice a A.length ca) A) (hB : StrsAt w (.slice b B.length cb) B) (hn : A.length ≤ 9223372036854775807) (hm : B.length ≤ 9223372036854775807) :
    Calls Try.prog 24 #[.slice a A.length ca, .slice b B.length cb] w fun e w' => e = .returned (.bool (sameB A B)) ∧ Below w.heap.size w w' := by
  by_cases hlen : A.length = B.length
  · rw [← hlen] at hB ⊢
    go_enter Try.func24, Try.ntmps24
    go_wp2
    go_loopw [5] (fun vi wr => ∃ (i : Nat), vi = .int .i64 i ∧ i ≤ A.length ∧ A.take i = B.take i ∧ Below w.heap.size w wr) (fun vi _ => A.length - (intOf vi).toNat)
    case atStart => exact ⟨0, rfl, by omega, by simp, Below.refl _ _⟩
    case round =>
      obtain ⟨i, rfl, hi, htk, hbr⟩ := hrel
      by_cases h : i < A.length
      · as_aux_lemma =>
        obtain ⟨bb, off, rfl, hcell⟩ := strs_get (hA.grew hbr) i h
        have hB' := hB.grew hbr
        rw [hlen] at hB'
        obtain ⟨b2, off2, rfl, hcell2⟩ := strs_get hB' i (by omega)
        simp only [str] at hcell hcell2
        have Htk := Lib.hid htk
        clear htk hB'
        by_cases hx : A[i] = B[i]'(by omega)
        · as_aux_lemma =>
          have hq : ((bs A[i]).toList == (bs (B[i]'(by omega))).toList) = true := by rw [← hx]; simp
          go_wp2
          go_region
          go_wp2
          go_roundw
          case rel => exact ⟨i + 1, by go_num, by omega, by rw [List.take_succ_eq_append_getElem h, List.take_succ_eq_append_getElem (by omega), Htk.out, hx], hbr.drew⟩
          case measure => simp [intOf]; omega
        · as_aux_lemma =>
          have hq : ((bs A[i]).toList == (bs (B[i]'(by omega))).toList) = false := by rw [bs_toList, bs_toList]; simpa using hx
          have e : sameB A B = false := by
            unfold sameB; simp; intro h; subst h; exact hx rfl
          go_wp2
          go_region
          go_wp2
          go_ret
          exact ⟨by first | rfl | (rw [e]; rfl), hbr.drew⟩
      · as_aux_lemma =>
        have e : sameB A B = true := by
          unfold sameB
          rw [List.take_of_length_le (by omega), List.take_of_length_le (by omega)] at htk
          simp [htk]
        go_wp2
        go_ret
        exact ⟨by rw [e]; rfl, hbr⟩
  · have e : sameB A B = false := by unfold sameB; simp; intro h; exact hlen (by rw [h])
    rw [e]
    go_enter Try.func24, Try.ntmps24
    go_wp2
    go_ret
    exact ⟨rfl, Below.refl _ _⟩

set_option maxRecDepth 100000 in
set_option maxHeartbeats 400000 in
theorem few_any (L : List (List UInt8)) (a : Option Addr) (cap : Nat) (w : World) (hL : StrsAt w (.slice a L.length cap) L) (hn : L.length ≤ 9223372036854775807) (hs : ∀ s ∈ L, s.length ≤ 9223372036854775807) :
    Calls Try.prog 16 #[.slice a L.length cap] w fun e w' => e = .returned (.bool (fewB L)) ∧ w' = w := by
  by_cases h100 : L.length ≤ 100
  · go_enter Try.func16, Try.ntmps16
    go_wp2
    go_loop [3] (fun vi => ∃ (i : Nat), vi = .int .i64 i ∧ i ≤ L.length ∧ (L.take i).all (fun s => decide (s.length ≤ 1000)) = true) (fun vi => L.length - (intOf vi).toNat)
    case atStart => exact ⟨0, rfl, by omega, by simp⟩
    case round =>
      obtain ⟨i, rfl, hi, htk⟩ := hrel
      by_cases h : i < L.length
      · obtain ⟨bb, off, rfl, hcell⟩ := strs_get hL i h
        simp only [str] at hcell
        have hsi := hs _ (List.getElem_mem h)
        have hz := bs_size L[i]
        by_cases h1 : L[i].length ≤ 1000
        · as_aux_lemma =>
          have Htk := Lib.hid htk
          clear htk
          go_wp2
          go_round
          case rel =>
            refine ⟨i + 1, by go_num, by omega, ?_⟩
            rw [List.take_succ_eq_append_getElem h, List.all_append, Htk.out]
            simp [h1]
          case measure => simp [intOf]; omega
        · as_aux_lemma =>
          have e : fewB L = false := by
            unfold fewB
            rw [Bool.and_eq_false_iff]
            right
            rw [List.all_eq_false]
            exact ⟨_, List.getElem_mem h, by simp; omega⟩
          clear htk
          go_wp2
          go_ret
          exact ⟨by first | rfl | (rw [e]; rfl), rfl⟩
      · as_aux_lemma =>
        have e : fewB L = true := by
          unfold fewB
          rw [List.take_of_length_le (by omega)] at htk
          rw [htk]; simp [h100]
        clear htk
        go_wp2
        go_ret
        exact ⟨by first | rfl | (rw [e]; rfl), rfl⟩
  · have e : fewB L = false := by unfold fewB; simp [h100]
    rw [e]
    go_enter Try.func16, Try.ntmps16
    go_wp2
    go_ret
    exact ⟨rfl, rfl⟩

theorem num0 (w : World) : Calls Try.prog 20 #[.int .i64 0] w fun e w' => e = .returned (.string ⟨#[0]⟩) ∧ Below w.heap.size w w' := by
  have h := num_any 0 (by omega) (by omega) w
  rwa [show bs (numL 0) = ⟨#[0]⟩ by decide +kernel] at h
theorem numM1 (w : World) : Calls Try.prog 20 #[.int .i64 (-1)] w fun e w' => e = .returned (.string ⟨#[1]⟩) ∧ Below w.heap.size w w' := by
  have h := num_any (-1) (by omega) (by omega) w
  rwa [show bs (numL (-1)) = ⟨#[1]⟩ by decide +kernel] at h
theorem num64 (w : World) : Calls Try.prog 20 #[.int .i64 64] w fun e w' => e = .returned (.string ⟨#[128, 1]⟩) ∧ Below w.heap.size w w' := by
  have h := num_any 64 (by omega) (by omega) w
  rwa [show bs (numL 64) = ⟨#[128, 1]⟩ by decide +kernel] at h
theorem textHi (w : World) : Calls Try.prog 18 #[.string ⟨#[104, 105]⟩] w fun e w' => e = .returned (.string ⟨#[4, 104, 105]⟩) ∧ Below w.heap.size w w' := by
  have h := text_any [104, 105] (by decide) w
  rwa [show bs (textL [104, 105]) = ⟨#[4, 104, 105]⟩ by decide +kernel] at h
theorem strs_none (w : World) : StrsAt w (.slice none 0 0) [] := ⟨none, 0, rfl, fun i hi => by simp at hi⟩
theorem listNone (w : World) : Calls Try.prog 22 #[.slice none 0 0] w fun e w' => e = .returned (.string ⟨#[0]⟩) ∧ Below w.heap.size w w' := by
  have h := list_any [] none 0 w (strs_none w) (by decide) (by simp) (by decide +kernel)
  rwa [show bs (listL []) = ⟨#[0]⟩ by decide +kernel] at h
set_option maxRecDepth 100000 in
set_option maxHeartbeats 400000 in
theorem awake_any (w : World) : Calls Try.prog 17 #[] w fun e w' => e = .returned (.bool true) ∧ Below w.heap.size w w' := by
  go_enter Try.func17, Try.ntmps17
  go_wp2_with (fail)
  refine (num0 _).mono ?_
  rintro e w1 ⟨rfl, hb1⟩
  go_wp2_with (fail)
  refine (numM1 _).mono ?_
  rintro e w2 ⟨rfl, hb2⟩
  go_wp2_with (fail)
  refine (num64 _).mono ?_
  rintro e w3 ⟨rfl, hb3⟩
  go_wp2_with (fail)
  refine (textHi _).mono ?_
  rintro e w4 ⟨rfl, hb4⟩
  go_wp2_with (fail)
  refine (listNone _).mono ?_
  rintro e w5 ⟨rfl, hb5⟩
  go_wp2
  go_ret
  have s2 := Nat.le_trans hb1.size hb2.size
  have s3 := Nat.le_trans s2 hb3.size
  have s4 := Nat.le_trans s3 hb4.size
  exact ⟨rfl, (((hb1.trans (hb2.mono hb1.size)).trans (hb3.mono s2)).trans (hb4.mono s3)).trans (hb5.mono s4)⟩
end Go.Proofs.Ytlbacddgjagcbaa
