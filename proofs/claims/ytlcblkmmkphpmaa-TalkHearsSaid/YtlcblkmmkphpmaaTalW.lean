/- The walks of the writer's nums, texts and flags. Conditions: as each theorem says. -/
import Derived.Test.YtlcblkmmkphpmaaTalB
import Derived.Test.YtlcblkmmkphpmaaTalQ
namespace Go.Proofs.Ytlcblkmmkphpmaa
open Go.RowKit

/-- Since the world 'u' the writer has been at work alone: what it holds. -/
structure Ww (B b : Nat) (D : List UInt8) (u w : World) : Prop where
  at_ : IsW B b D w
  bel : Below B u w
  kp : Wk b u w
  sz : B ≤ w.heap.size
theorem Ww.refl {B b : Nat} {D : List UInt8} {u w : World} (h : Ww B b D u w) : Ww B b D w w := ⟨h.at_, Below.refl _ _, Wk.refl _ _, h.sz⟩
theorem Ww.trans {B b : Nat} {D E : List UInt8} {u v w : World} (h : Ww B b D u v) (k : Ww B b E v w) : Ww B b E u w := ⟨k.at_, h.bel.trans k.bel, h.kp.trans k.kp, k.sz⟩
theorem Ww.cast {B b : Nat} {D E : List UInt8} {u w : World} (h : Ww B b D u w) (e : D = E) : Ww B b E u w := e ▸ h
theorem Ww.blk {B b g : Nat} {T : TypeId} {cs : List Value} {D : List UInt8} {u w : World} (h : Ww B b D u w) (hb : BlkAt g T cs u) (hn : g ≠ b) (ht : T ≠ 5) : BlkAt g T cs w := h.kp.blk hb hn ht
theorem isw_le {B b : Nat} {D : List UInt8} {w : World} (h : IsW B b D w) : B ≤ b := by
  rcases h with h | h
  · exact h.1
  · exact h.1
theorem isw_blk {B b : Nat} {D : List UInt8} {w : World} (h : IsW B b D w) : ∃ p v, BlkAt b WrT [p, v] w := by
  rcases h with h | h
  · obtain ⟨_, v, hb, _⟩ := h
    exact ⟨_, v, hb⟩
  · obtain ⟨_, v, hb, _⟩ := h
    exact ⟨_, v, hb⟩
theorem isw_ne {B b g : Nat} {T : TypeId} {cs : List Value} {D : List UInt8} {w : World} (h : IsW B b D w) (hg : BlkAt g T cs w) (ht : T ≠ WrT) : g ≠ b := by
  intro e
  subst e
  obtain ⟨p, v, hb⟩ := isw_blk h
  unfold BlkAt at hb hg
  rw [hb] at hg
  simp only [Option.some.injEq, Obj.cells.injEq] at hg
  exact ht hg.2.1.symm
theorem flat_take1 {α : Type} (enc : α → List UInt8) (L : List α) (i : Nat) (h : i < L.length) : (L.take (i + 1)).flatMap enc = (L.take i).flatMap enc ++ enc L[i] := by
  rw [List.take_succ_eq_append_getElem h, List.flatMap_append]
  simp
theorem flat_take_le {α : Type} (enc : α → List UInt8) (L : List α) (i : Nat) : ((L.take i).flatMap enc).length ≤ (L.flatMap enc).length := by
  have h : L.flatMap enc = (L.take i).flatMap enc ++ (L.drop i).flatMap enc := by rw [← List.flatMap_append, List.take_append_drop]
  rw [h, List.length_append]
  omega
theorem Ww.grow {B b : Nat} {D : List UInt8} {u w w' : World} (h : Ww B b D u w) (hb : Below w.heap.size w w') : Ww B b D u w' := ⟨isb_below h.at_ hb, h.bel.trans (hb.mono h.sz), h.kp.trans (Wk.of_below hb), Nat.le_trans h.sz hb.size⟩
theorem Ww.drew {B b : Nat} {D : List UInt8} {u w : World} (h : Ww B b D u w) : Ww B b D u w.drew := ⟨h.at_, h.bel.drew, h.kp, h.sz⟩
theorem Ww.alloc {B b : Nat} {D : List UInt8} {u w : World} (h : Ww B b D u w) (o : Obj) : Ww B b D u (w.alloc o) := h.grow ((Below.refl _ _).alloc (Nat.le_refl _) o)
theorem size1 (w : World) (o : Obj) : w.heap.size + 1 = (w.alloc o).heap.size := (Array.size_push _).symm
theorem Ww.ne {B b g : Nat} {T : TypeId} {cs : List Value} {D : List UInt8} {u w : World} (h : Ww B b D u w) (hg : BlkAt g T cs w) (ht : T ≠ WrT) : g ≠ b := isw_ne h.at_ hg ht
theorem ww_write {B b : Nat} {D : List UInt8} {u : World} (s : List UInt8) (hl : D.length + s.length ≤ 140737488355328) (w : World) (h : Ww B b D u w) :
    Calls Try.prog 69 #[.pointer (some ⟨b, 0, none⟩), .string (bs s)] w fun e w' => e = .returned (.tuple #[.int .i64 (bs s).size, .nilIface]) ∧ Ww B b (D ++ s) u w' :=
  (writeString_any B b D s w h.at_ hl h.sz).mono fun _ _ ⟨he, h1, h2, h3⟩ => ⟨he, h1, h.bel.trans h2, h.kp.trans h3, Nat.le_trans h.sz h2.size⟩
def intV (n : Int) : Value := .int .i64 n
set_option maxRecDepth 100000 in
set_option maxHeartbeats 1000000 in
theorem nums_any (B b bb : Nat) (D : List UInt8) (u : World) (L : List Int) (w : World) (h : Ww B b D u w) (hL : BlkAt bb 3 (L.map intV) w) (hi : ∀ n ∈ L, i64 n) (hn : L.length ≤ 1000) (hd : D.length + (L.flatMap numL).length ≤ 140737488355328) :
    Calls Try.prog 38 #[.pointer (some ⟨b, 0, none⟩), .slice (some ⟨bb, 0, none⟩) L.length L.length] w fun e w' => e = .returned (.tuple #[]) ∧ Ww B b (D ++ L.flatMap numL) u w' := by
  have HL := Lib.hid hL
  have H := Lib.hid h
  have hne := h.ne hL (by decide)
  clear h hL
  go_enter Try.func38, Try.ntmps38
  go_wp2_with (fail)
  go_loopw [8] (fun v8 W => ∃ i : Nat, v8 = .int .i64 (i : Int) ∧ i ≤ L.length ∧ Ww B b (D ++ (L.take i).flatMap numL) w W) (fun v8 _ => L.length - (intOf v8).toNat)
  case atStart => exact ⟨0, rfl, by omega, H.out.refl.cast (by simp)⟩
  case round =>
    obtain ⟨i, rfl, hi', hW⟩ := hrel
    have HW := Lib.hid hW
    have hLb := hW.blk HL.out hne (by decide)
    clear hW
    by_cases hlt : i < L.length
    · as_aux_lemma =>
      have q0 : decide (i < L.length) = true := decide_eq_true hlt
      have c0 : wr.cell? ⟨bb, i, none⟩ = some (intV L[i]) := hLb.cell (by simp [hlt])
      unfold intV at c0
      have hint := hi L[i] (List.getElem_mem hlt)
      have hst := flat_take1 numL L i hlt
      have hle := flat_take_le numL L (i + 1)
      rw [hst, List.length_append] at hle
      have HN := Lib.hid (fun W => num_any L[i] hint.1 hint.2 W)
      have HS := Lib.hid (fun (W : World) (hW : Ww B b (D ++ (L.take i).flatMap numL) w W) => ww_write (numL L[i]) (by rw [List.length_append]; omega) W hW)
      have HSt := Lib.hid hst
      clear hLb hint hst hle
      generalize L[i] = n at *
      go_wp2_with (fail)
      go_region_with (first
        | (go_at_call 70; (with_reducible refine (HN.out _).mono ?_); rintro e w1 ⟨rfl, hb1⟩; have HW1 := Lib.hid (HW.out.drew.grow hb1); clear hb1)
        | (go_at_call 69; (with_reducible refine (HS.out _ HW1.out).mono ?_); rintro e w2 ⟨rfl, hW2⟩; have HW2 := Lib.hid hW2; clear hW2))
      all_goals (go_wp2_with (fail); go_roundw; (case rel => exact ⟨i + 1, by go_num, by omega, HW2.out.cast (by rw [HSt.out, List.append_assoc])⟩); (case measure => simp [intOf]; omega))
    · as_aux_lemma =>
      have q0 : decide (i < L.length) = false := decide_eq_false hlt
      have HW2 : Hid (Ww B b (D ++ L.flatMap numL) w wr) := Lib.hid (HW.out.cast (by rw [List.take_of_length_le (by omega)]))
      clear hLb
      go_wp2
      go_end0
      exact ⟨rfl, H.out.trans HW2.out⟩
theorem nums1 {B b : Nat} {D : Byt} {u : World} (a : Int) (ha : i64 a) (hl : D.length + (numL a).length ≤ 140737488355328) (W : World) (h : Ww B b D u W) (g : Nat) (hg : g = W.heap.size) :
    Calls Try.prog 38 #[.pointer (some ⟨b, 0, none⟩), .slice (some ⟨g, 0, none⟩) 1 1] (W.alloc (.cells #[.int .i64 a] 3)) fun e w' => e = .returned (.tuple #[]) ∧ Ww B b (D ++ (numL a)) u w' := by
  subst hg
  exact (nums_any B b W.heap.size D u [a] _ (h.alloc _) (BlkAt.alloc_new W _ _) (by intro n hn; simp only [List.mem_cons, List.not_mem_nil, or_false] at hn; rcases hn with rfl <;> assumption) (by simp) (by simpa only [List.flatMap_cons, List.flatMap_nil, List.append_nil] using hl)).mono fun _ _ ⟨h1, h2⟩ => ⟨h1, h2.cast (by simp only [List.flatMap_cons, List.flatMap_nil, List.append_nil])⟩
theorem nums2 {B b : Nat} {D : Byt} {u : World} (a c : Int) (ha : i64 a) (hc : i64 c) (hl : D.length + (numL a ++ (numL c)).length ≤ 140737488355328) (W : World) (h : Ww B b D u W) (g : Nat) (hg : g = W.heap.size) :
    Calls Try.prog 38 #[.pointer (some ⟨b, 0, none⟩), .slice (some ⟨g, 0, none⟩) 2 2] (W.alloc (.cells #[.int .i64 a, .int .i64 c] 3)) fun q w' => q = .returned (.tuple #[]) ∧ Ww B b (D ++ (numL a ++ (numL c))) u w' := by
  subst hg
  exact (nums_any B b W.heap.size D u [a, c] _ (h.alloc _) (BlkAt.alloc_new W _ _) (by intro n hn; simp only [List.mem_cons, List.not_mem_nil, or_false] at hn; rcases hn with rfl | rfl <;> assumption) (by simp) (by simpa only [List.flatMap_cons, List.flatMap_nil, List.append_nil] using hl)).mono fun _ _ ⟨h1, h2⟩ => ⟨h1, h2.cast (by simp only [List.flatMap_cons, List.flatMap_nil, List.append_nil])⟩
theorem nums3 {B b : Nat} {D : Byt} {u : World} (a c d : Int) (ha : i64 a) (hc : i64 c) (hd : i64 d) (hl : D.length + (numL a ++ (numL c ++ (numL d))).length ≤ 140737488355328) (W : World) (h : Ww B b D u W) (g : Nat) (hg : g = W.heap.size) :
    Calls Try.prog 38 #[.pointer (some ⟨b, 0, none⟩), .slice (some ⟨g, 0, none⟩) 3 3] (W.alloc (.cells #[.int .i64 a, .int .i64 c, .int .i64 d] 3)) fun q w' => q = .returned (.tuple #[]) ∧ Ww B b (D ++ (numL a ++ (numL c ++ (numL d)))) u w' := by
  subst hg
  exact (nums_any B b W.heap.size D u [a, c, d] _ (h.alloc _) (BlkAt.alloc_new W _ _) (by intro n hn; simp only [List.mem_cons, List.not_mem_nil, or_false] at hn; rcases hn with rfl | rfl | rfl <;> assumption) (by simp) (by simpa only [List.flatMap_cons, List.flatMap_nil, List.append_nil] using hl)).mono fun _ _ ⟨h1, h2⟩ => ⟨h1, h2.cast (by simp only [List.flatMap_cons, List.flatMap_nil, List.append_nil])⟩
theorem nums4 {B b : Nat} {D : Byt} {u : World} (a c d e : Int) (ha : i64 a) (hc : i64 c) (hd : i64 d) (he : i64 e) (hl : D.length + (numL a ++ (numL c ++ (numL d ++ (numL e)))).length ≤ 140737488355328) (W : World) (h : Ww B b D u W) (g : Nat) (hg : g = W.heap.size) :
    Calls Try.prog 38 #[.pointer (some ⟨b, 0, none⟩), .slice (some ⟨g, 0, none⟩) 4 4] (W.alloc (.cells #[.int .i64 a, .int .i64 c, .int .i64 d, .int .i64 e] 3)) fun q w' => q = .returned (.tuple #[]) ∧ Ww B b (D ++ (numL a ++ (numL c ++ (numL d ++ (numL e))))) u w' := by
  subst hg
  exact (nums_any B b W.heap.size D u [a, c, d, e] _ (h.alloc _) (BlkAt.alloc_new W _ _) (by intro n hn; simp only [List.mem_cons, List.not_mem_nil, or_false] at hn; rcases hn with rfl | rfl | rfl | rfl <;> assumption) (by simp) (by simpa only [List.flatMap_cons, List.flatMap_nil, List.append_nil] using hl)).mono fun _ _ ⟨h1, h2⟩ => ⟨h1, h2.cast (by simp only [List.flatMap_cons, List.flatMap_nil, List.append_nil])⟩
def textV (s : Byt) : Value := .string (bs s)
set_option maxRecDepth 100000 in
set_option maxHeartbeats 1000000 in
theorem texts_any (B b bb : Nat) (D : List UInt8) (u : World) (L : List Byt) (w : World) (h : Ww B b D u w) (hL : BlkAt bb 9 (L.map textV) w) (hi : ∀ n ∈ L, n.length ≤ 4611686018427387903) (hn : L.length ≤ 1000) (hd : D.length + (L.flatMap textL).length ≤ 140737488355328) :
    Calls Try.prog 71 #[.pointer (some ⟨b, 0, none⟩), .slice (some ⟨bb, 0, none⟩) L.length L.length] w fun e w' => e = .returned (.tuple #[]) ∧ Ww B b (D ++ L.flatMap textL) u w' := by
  have HL := Lib.hid hL
  have H := Lib.hid h
  have hne := h.ne hL (by decide)
  clear h hL
  go_enter Try.func71, Try.ntmps71
  go_wp2_with (fail)
  go_loopw [8] (fun v8 W => ∃ i : Nat, v8 = .int .i64 (i : Int) ∧ i ≤ L.length ∧ Ww B b (D ++ (L.take i).flatMap textL) w W) (fun v8 _ => L.length - (intOf v8).toNat)
  case atStart => exact ⟨0, rfl, by omega, H.out.refl.cast (by simp)⟩
  case round =>
    obtain ⟨i, rfl, hi', hW⟩ := hrel
    have HW := Lib.hid hW
    have hLb := hW.blk HL.out hne (by decide)
    clear hW
    by_cases hlt : i < L.length
    · as_aux_lemma =>
      have q0 : decide (i < L.length) = true := decide_eq_true hlt
      have c0 : wr.cell? ⟨bb, i, none⟩ = some (textV L[i]) := hLb.cell (by simp [hlt])
      unfold textV at c0
      have hint := hi L[i] (List.getElem_mem hlt)
      have hst := flat_take1 textL L i hlt
      have hle := flat_take_le textL L (i + 1)
      rw [hst, List.length_append] at hle
      have HN := Lib.hid (fun W => text_any L[i] (by omega) W)
      have HS := Lib.hid (fun (W : World) (hW : Ww B b (D ++ (L.take i).flatMap textL) w W) => ww_write (textL L[i]) (by rw [List.length_append]; omega) W hW)
      have HSt := Lib.hid hst
      clear hLb hint hst hle
      generalize L[i] = n at *
      go_wp2_with (fail)
      go_region_with (first
        | (go_at_call 83; (with_reducible refine (HN.out _).mono ?_); rintro e w1 ⟨rfl, hb1⟩; have HW1 := Lib.hid (HW.out.drew.grow hb1); clear hb1)
        | (go_at_call 69; (with_reducible refine (HS.out _ HW1.out).mono ?_); rintro e w2 ⟨rfl, hW2⟩; have HW2 := Lib.hid hW2; clear hW2))
      all_goals (go_wp2_with (fail); go_roundw; (case rel => exact ⟨i + 1, by go_num, by omega, HW2.out.cast (by rw [HSt.out, List.append_assoc])⟩); (case measure => simp [intOf]; omega))
    · as_aux_lemma =>
      have q0 : decide (i < L.length) = false := decide_eq_false hlt
      have HW2 : Hid (Ww B b (D ++ L.flatMap textL) w wr) := Lib.hid (HW.out.cast (by rw [List.take_of_length_le (by omega)]))
      clear hLb
      go_wp2
      go_end0
      exact ⟨rfl, H.out.trans HW2.out⟩
theorem texts1 {B b : Nat} {D : Byt} {u : World} (a : Byt) (ha : a.length ≤ 4611686018427387903) (hl : D.length + (textL a).length ≤ 140737488355328) (W : World) (h : Ww B b D u W) (g : Nat) (hg : g = W.heap.size) :
    Calls Try.prog 71 #[.pointer (some ⟨b, 0, none⟩), .slice (some ⟨g, 0, none⟩) 1 1] (W.alloc (.cells #[.string (bs a)] 9)) fun e w' => e = .returned (.tuple #[]) ∧ Ww B b (D ++ (textL a)) u w' := by
  subst hg
  exact (texts_any B b W.heap.size D u [a] _ (h.alloc _) (BlkAt.alloc_new W _ _) (by intro n hn; simp only [List.mem_cons, List.not_mem_nil, or_false] at hn; rcases hn with rfl <;> assumption) (by simp) (by simpa only [List.flatMap_cons, List.flatMap_nil, List.append_nil] using hl)).mono fun _ _ ⟨h1, h2⟩ => ⟨h1, h2.cast (by simp only [List.flatMap_cons, List.flatMap_nil, List.append_nil])⟩
theorem texts2 {B b : Nat} {D : Byt} {u : World} (a c : Byt) (ha : a.length ≤ 4611686018427387903) (hc : c.length ≤ 4611686018427387903) (hl : D.length + (textL a ++ (textL c)).length ≤ 140737488355328) (W : World) (h : Ww B b D u W) (g : Nat) (hg : g = W.heap.size) :
    Calls Try.prog 71 #[.pointer (some ⟨b, 0, none⟩), .slice (some ⟨g, 0, none⟩) 2 2] (W.alloc (.cells #[.string (bs a), .string (bs c)] 9)) fun e w' => e = .returned (.tuple #[]) ∧ Ww B b (D ++ (textL a ++ (textL c))) u w' := by
  subst hg
  exact (texts_any B b W.heap.size D u [a, c] _ (h.alloc _) (BlkAt.alloc_new W _ _) (by intro n hn; simp only [List.mem_cons, List.not_mem_nil, or_false] at hn; rcases hn with rfl | rfl <;> assumption) (by simp) (by simpa only [List.flatMap_cons, List.flatMap_nil, List.append_nil] using hl)).mono fun _ _ ⟨h1, h2⟩ => ⟨h1, h2.cast (by simp only [List.flatMap_cons, List.flatMap_nil, List.append_nil])⟩
set_option maxRecDepth 100000 in
set_option maxHeartbeats 1000000 in
theorem flags_any (B b bb : Nat) (D : List UInt8) (u : World) (L : List Bool) (w : World) (h : Ww B b D u w) (hL : BlkAt bb 4 (L.map .bool) w) (hi : ∀ n ∈ L, True) (hn : L.length ≤ 1000) (hd : D.length + (L.flatMap flagC.enc).length ≤ 140737488355328) :
    Calls Try.prog 49 #[.pointer (some ⟨b, 0, none⟩), .slice (some ⟨bb, 0, none⟩) L.length L.length] w fun e w' => e = .returned (.tuple #[]) ∧ Ww B b (D ++ L.flatMap flagC.enc) u w' := by
  have HL := Lib.hid hL
  have H := Lib.hid h
  have hne := h.ne hL (by decide)
  clear h hL
  go_enter Try.func49, Try.ntmps49
  go_wp2_with (fail)
  go_loopw [8] (fun v8 W => ∃ i : Nat, v8 = .int .i64 (i : Int) ∧ i ≤ L.length ∧ Ww B b (D ++ (L.take i).flatMap flagC.enc) w W) (fun v8 _ => L.length - (intOf v8).toNat)
  case atStart => exact ⟨0, rfl, by omega, H.out.refl.cast (by simp)⟩
  case round =>
    obtain ⟨i, rfl, hi', hW⟩ := hrel
    have HW := Lib.hid hW
    have hLb := hW.blk HL.out hne (by decide)
    clear hW
    by_cases hlt : i < L.length
    · as_aux_lemma =>
      have q0 : decide (i < L.length) = true := decide_eq_true hlt
      have c0 : wr.cell? ⟨bb, i, none⟩ = some (.bool L[i]) := hLb.cell (by simp [hlt])
      have hint := hi L[i] (List.getElem_mem hlt)
      have hst := flat_take1 flagC.enc L i hlt
      have hle := flat_take_le flagC.enc L (i + 1)
      rw [hst, List.length_append] at hle
      have HSt := Lib.hid hst
      have HN := Lib.hid (fun (n : Int) (hn : i64 n) (hl : (numL n).length ≤ (flagC.enc L[i]).length) => nums1 (B := B) (b := b) (D := D ++ (L.take i).flatMap flagC.enc) (u := w) n hn (by rw [List.length_append]; omega))
      clear hLb hint hst hle
      cases hb : L[i] with
      | true =>
        have HN1 := Lib.hid (HN.out 1 (by unfold i64; omega) (by rw [hb]; exact Nat.le_refl _) wr HW.out _ rfl)
        have HD : Hid ((L.take (i + 1)).flatMap flagC.enc = (L.take i).flatMap flagC.enc ++ numL 1) := Lib.hid (by rw [HSt.out, hb]; rfl)
        rw [hb] at c0
        clear HN HSt hb
        go_wp2_with (go_at_call 38; (with_reducible refine HN1.out.mono ?_); rintro e w1 ⟨rfl, hW1⟩; have HW1 := Lib.hid hW1; clear hW1)
        go_roundw
        case rel => exact ⟨i + 1, by go_num, by omega, HW1.out.cast (by rw [HD.out, List.append_assoc])⟩
        case measure => simp [intOf]; omega
      | false =>
        have HN1 := Lib.hid (HN.out 0 (by unfold i64; omega) (by rw [hb]; exact Nat.le_refl _) wr HW.out _ rfl)
        have HD : Hid ((L.take (i + 1)).flatMap flagC.enc = (L.take i).flatMap flagC.enc ++ numL 0) := Lib.hid (by rw [HSt.out, hb]; rfl)
        rw [hb] at c0
        clear HN HSt hb
        go_wp2_with (go_at_call 38; (with_reducible refine HN1.out.mono ?_); rintro e w1 ⟨rfl, hW1⟩; have HW1 := Lib.hid hW1; clear hW1)
        go_roundw
        case rel => exact ⟨i + 1, by go_num, by omega, HW1.out.cast (by rw [HD.out, List.append_assoc])⟩
        case measure => simp [intOf]; omega
    · as_aux_lemma =>
      have q0 : decide (i < L.length) = false := decide_eq_false hlt
      have HW2 : Hid (Ww B b (D ++ L.flatMap flagC.enc) w wr) := Lib.hid (HW.out.cast (by rw [List.take_of_length_le (by omega)]))
      clear hLb
      go_wp2
      go_end0
      exact ⟨rfl, H.out.trans HW2.out⟩
theorem flags1 {B b : Nat} {D : Byt} {u : World} (a : Bool)  (hl : D.length + (flagC.enc a).length ≤ 140737488355328) (W : World) (h : Ww B b D u W) (g : Nat) (hg : g = W.heap.size) :
    Calls Try.prog 49 #[.pointer (some ⟨b, 0, none⟩), .slice (some ⟨g, 0, none⟩) 1 1] (W.alloc (.cells #[.bool a] 4)) fun e w' => e = .returned (.tuple #[]) ∧ Ww B b (D ++ (flagC.enc a)) u w' := by
  subst hg
  exact (flags_any B b W.heap.size D u [a] _ (h.alloc _) (BlkAt.alloc_new W _ _) (fun _ _ => trivial) (by simp) (by simpa only [List.flatMap_cons, List.flatMap_nil, List.append_nil] using hl)).mono fun _ _ ⟨h1, h2⟩ => ⟨h1, h2.cast (by simp only [List.flatMap_cons, List.flatMap_nil, List.append_nil])⟩
theorem flags3 {B b : Nat} {D : Byt} {u : World} (a c d : Bool)  (hl : D.length + (flagC.enc a ++ (flagC.enc c ++ (flagC.enc d))).length ≤ 140737488355328) (W : World) (h : Ww B b D u W) (g : Nat) (hg : g = W.heap.size) :
    Calls Try.prog 49 #[.pointer (some ⟨b, 0, none⟩), .slice (some ⟨g, 0, none⟩) 3 3] (W.alloc (.cells #[.bool a, .bool c, .bool d] 4)) fun q w' => q = .returned (.tuple #[]) ∧ Ww B b (D ++ (flagC.enc a ++ (flagC.enc c ++ (flagC.enc d)))) u w' := by
  subst hg
  exact (flags_any B b W.heap.size D u [a, c, d] _ (h.alloc _) (BlkAt.alloc_new W _ _) (fun _ _ => trivial) (by simp) (by simpa only [List.flatMap_cons, List.flatMap_nil, List.append_nil] using hl)).mono fun _ _ ⟨h1, h2⟩ => ⟨h1, h2.cast (by simp only [List.flatMap_cons, List.flatMap_nil, List.append_nil])⟩
end Go.Proofs.Ytlcblkmmkphpmaa
