/- talk.Ask, Read and Answer. Conditions: as each theorem says. -/
import Derived.Test.YtlcblkmmkphpmaaTalX
namespace Go.Proofs.Ytlcblkmmkphpmaa
open Go.RowKit

/-- The cells of a request whose lists are the slices s1, s2, s3. -/
def rqV (x : Req) (s1 s2 s3 : Value) : List Value := [.int .i64 x.kind, s1, s2, s3, .int .i64 x.rev, .int .i64 x.lease, .int .i64 x.ticks]
/-- The request's lists in memory. -/
structure RqAt (w : World) (x : Req) (s1 s2 s3 : Value) : Prop where
  h1 : RowsAt 5 cpV w s1 x.cmp
  h2 : RowsAt 10 opV w s2 x.thn
  h3 : RowsAt 10 opV w s3 x.els
theorem RqAt.grew {w w' : World} {x : Req} {s1 s2 s3 : Value} (h : RqAt w x s1 s2 s3) (hb : Below w.heap.size w w') : RqAt w' x s1 s2 s3 := ⟨h.h1.grew hb, h.h2.grew hb, h.h3.grew hb⟩
/-- The cells of a response whose list is the slice s. -/
def rsV (x : Res) (s : Value) : List Value := [.int .i64 x.err, .int .i64 x.rev, .bool x.thn, s, .int .i64 x.ticks]
structure RsAt (w : World) (x : Res) (s : Value) (L : List (Ans × Value)) : Prop where
  hL : x.ans = L.map (·.1)
  h1 : RowsAt 4 anV w s L
  h2 : ∀ p ∈ L, RowsAt 6 kvV w p.2 p.1.kvs
theorem RsAt.grew {w w' : World} {x : Res} {s : Value} {L : List (Ans × Value)} (h : RsAt w x s L) (hb : Below w.heap.size w w') : RsAt w' x s L := ⟨h.hL, h.h1.grew hb, fun p hp => (h.h2 p hp).grew hb⟩
/-- The world in which a thing came to lie in a new block, and an empty writer in the next one. -/
def newW (W : World) (T : TypeId) (cs : List Value) : World := (W.alloc (.cells cs.toArray T)).alloc (.cells #[.pointer none, .slice none 0 0] WrT)
theorem newW_ww (W : World) (T : TypeId) (cs : List Value) : Ww (W.heap.size + 1) (W.heap.size + 1) [] (newW W T cs) (newW W T cs) := by
  have h := isw_new (W.alloc (.cells cs.toArray T))
  have hs : (W.alloc (.cells cs.toArray T)).heap.size = W.heap.size + 1 := (size1 _ _).symm
  rw [hs] at h
  refine ⟨h, Below.refl _ _, Wk.refl _ _, ?_⟩
  unfold newW
  rw [← size1, ← size1]
  omega
theorem newW_below (W : World) (T : TypeId) (cs : List Value) : Below W.heap.size W (newW W T cs) := ((Below.refl _ _).alloc (Nat.le_refl _) _).alloc (by rw [← size1]; omega) _
theorem newW_blk (W : World) (T : TypeId) (cs : List Value) : BlkAt W.heap.size T cs (newW W T cs) := (BlkAt.alloc_new W cs T).grew ((Below.refl _ _).alloc (Nat.le_refl _) _)
theorem newW_up (W : World) (T : TypeId) (cs : List Value) {w' : World} (h : Below (W.heap.size + 1) (newW W T cs) w') : Below W.heap.size W w' := (newW_below W T cs).trans (h.mono (by omega))
theorem size2 (w : World) (o p : Obj) : w.heap.size + 1 + 1 = ((w.alloc o).alloc p).heap.size := by rw [← size1, ← size1]
theorem ne_succ (n : Nat) : n ≠ n + 1 := by omega
set_option maxRecDepth 100000 in
set_option maxHeartbeats 1000000 in
theorem ask_any (c s : Int) (hc : i64 c) (hs : i64 s) (x : Req) (hok : rqC.ok x) (s1 s2 s3 : Value) (hd : (askL c s x).length ≤ 140737488355328) (W : World) (h : RqAt W x s1 s2 s3) :
    Calls Try.prog 15 #[.int .i64 c, .int .i64 s, .agg (rqV x s1 s2 s3).toArray] W fun e w' => e = .returned (.string (bs (askL c s x))) ∧ Below W.heap.size W w' := by
  obtain ⟨a1, p1, rfl⟩ := h.h1.form
  obtain ⟨a2, p2, rfl⟩ := h.h2.form
  obtain ⟨a3, p3, rfl⟩ := h.h3.form
  have he : askL c s x = numL c ++ (numL s ++ (numL 0 ++ (numL x.kind ++ (listL_ cpC.enc x.cmp ++ (listL_ opC.enc x.thn ++ (listL_ opC.enc x.els ++ (numL x.rev ++ (numL x.lease ++ numL x.ticks)))))))) := rfl
  have HNN : Hid (askL c s x ≠ []) := Lib.hid (by rw [he]; intro e; exact numL_ne c (List.append_eq_nil_iff.1 e).1)
  rw [he] at hd HNN ⊢
  simp only [List.length_append] at hd
  have hw := newW_ww W 26 (rqV x (.slice a1 x.cmp.length p1) (.slice a2 x.thn.length p2) (.slice a3 x.els.length p3))
  have hb0 := newW_blk W 26 (rqV x (.slice a1 x.cmp.length p1) (.slice a2 x.thn.length p2) (.slice a3 x.els.length p3))
  have hup := fun w' => newW_up W 26 (rqV x (.slice a1 x.cmp.length p1) (.slice a2 x.thn.length p2) (.slice a3 x.els.length p3)) (w' := w')
  generalize hU : newW W 26 (rqV x (.slice a1 x.cmp.length p1) (.slice a2 x.thn.length p2) (.slice a3 x.els.length p3)) = U at hw hb0 hup
  have HG := fun w' hb => h.grew (hup w' hb)
  have H0 := Lib.hid (nums4 (B := W.heap.size + 1) (b := W.heap.size + 1) (D := []) (u := U) c s 0 x.kind hc hs (by unfold i64; omega) hok.1 (by simp only [List.length_append, List.length_nil]; omega))
  have H1 := Lib.hid (listCompare_any (B := W.heap.size + 1) (b := W.heap.size + 1) (D := [] ++ (numL c ++ (numL s ++ (numL 0 ++ numL x.kind)))) (u := U) x.cmp a1 p1 (fun w' hb => (HG w' hb).h1) hok.2.1 (by simp only [List.length_append, List.length_nil]; omega))
  have H2 := Lib.hid (listOp_any (B := W.heap.size + 1) (b := W.heap.size + 1) (D := [] ++ (numL c ++ (numL s ++ (numL 0 ++ numL x.kind))) ++ listL_ cpC.enc x.cmp) (u := U) x.thn a2 p2 (fun w' hb => (HG w' hb).h2) hok.2.2.1 (by simp only [List.length_append, List.length_nil]; omega))
  have H3 := Lib.hid (listOp_any (B := W.heap.size + 1) (b := W.heap.size + 1) (D := [] ++ (numL c ++ (numL s ++ (numL 0 ++ numL x.kind))) ++ listL_ cpC.enc x.cmp ++ listL_ opC.enc x.thn) (u := U) x.els a3 p3 (fun w' hb => (HG w' hb).h3) hok.2.2.2.1 (by simp only [List.length_append, List.length_nil]; omega))
  have H4 := Lib.hid (nums3 (B := W.heap.size + 1) (b := W.heap.size + 1) (D := [] ++ (numL c ++ (numL s ++ (numL 0 ++ numL x.kind))) ++ listL_ cpC.enc x.cmp ++ listL_ opC.enc x.thn ++ listL_ opC.enc x.els) (u := U) x.rev x.lease x.ticks hok.2.2.2.2.1 hok.2.2.2.2.2.1 hok.2.2.2.2.2.2 (by simp only [List.length_append, List.length_nil]; omega))
  have HE : Hid ([] ++ (numL c ++ (numL s ++ (numL 0 ++ numL x.kind))) ++ listL_ cpC.enc x.cmp ++ listL_ opC.enc x.thn ++ listL_ opC.enc x.els ++ (numL x.rev ++ (numL x.lease ++ numL x.ticks)) = numL c ++ (numL s ++ (numL 0 ++ (numL x.kind ++ (listL_ cpC.enc x.cmp ++ (listL_ opC.enc x.thn ++ (listL_ opC.enc x.els ++ (numL x.rev ++ (numL x.lease ++ numL x.ticks))))))))) := Lib.hid (by simp only [List.append_assoc, List.nil_append])
  have HB := Lib.hid hb0
  have HUP := Lib.hid hup
  have HW0 := Lib.hid hw
  have hT : (26 : TypeId) ≠ 5 := by decide
  have c0 := BlkAt.cell hb0 (i := 0) rfl
  clear h hd hok he hb0 hup hw HG hc hs
  unfold newW at hU
  unfold rqV at *
  subst hU
  go_enter Try.func15, Try.ntmps15
  go_wp2_with (first
    | (go_at_call 38; (with_reducible refine (H0.out _ HW0.out _ (size2 _ _ _)).mono ?_); rintro e w1 ⟨rfl, hW⟩; have hk := hW.blk HB.out (ne_succ _) hT; have c1 := BlkAt.cell hk (i := 1) rfl; clear hk; have HW1 := Lib.hid hW; clear hW)
    | (go_at_call 39; (with_reducible refine (H1.out _ HW1.out).mono ?_); rintro e w2 ⟨rfl, hW⟩; have hk := hW.blk HB.out (ne_succ _) hT; have c2 := BlkAt.cell hk (i := 2) rfl; clear hk; have HW2 := Lib.hid hW; clear hW)
    | (go_at_call 41; (with_reducible refine (H2.out _ HW2.out).mono ?_); rintro e w3 ⟨rfl, hW⟩; have hk := hW.blk HB.out (ne_succ _) hT; have c3 := BlkAt.cell hk (i := 3) rfl; clear hk; have HW3 := Lib.hid hW; clear hW)
    | (go_at_call 41; (with_reducible refine (H3.out _ HW3.out).mono ?_); rintro e w4 ⟨rfl, hW⟩; have hk := hW.blk HB.out (ne_succ _) hT; have c4 := BlkAt.cell hk (i := 4) rfl; have c5 := BlkAt.cell hk (i := 5) rfl; have c6 := BlkAt.cell hk (i := 6) rfl; clear hk; have HW4 := Lib.hid hW; clear hW)
    | (go_at_call 38; (with_reducible refine (H4.out _ HW4.out _ rfl).mono ?_); rintro e w5 ⟨rfl, hW⟩; have HW5 := Lib.hid (hW.cast HE.out); clear hW)
    | (go_at_call 43; (with_reducible refine (string_any _ _ _ _ HW5.out.at_ HNN.out).mono ?_); rintro e w6 ⟨rfl, hb6⟩))
  go_ret
  exact ⟨rfl, HUP.out _ (HW5.out.bel.trans hb6)⟩
set_option maxRecDepth 100000 in
set_option maxHeartbeats 1000000 in
theorem read_any (c s : Int) (hc : i64 c) (hs : i64 s) (x : Rg) (hok : rgC.ok x) (hd : (readL c s x).length ≤ 140737488355328) (W : World) :
    Calls Try.prog 17 #[.int .i64 c, .int .i64 s, .agg (rgV x).toArray] W fun e w' => e = .returned (.string (bs (readL c s x))) ∧ Below W.heap.size W w' := by
  have he : readL c s x = numL c ++ (numL s ++ (numL 1 ++ rgC.enc x)) := rfl
  have HNN : Hid (readL c s x ≠ []) := Lib.hid (by rw [he]; intro e; exact numL_ne c (List.append_eq_nil_iff.1 e).1)
  rw [he] at hd HNN ⊢
  simp only [List.length_append] at hd
  have hw := newW_ww W 28 (rgV x)
  have hb0 := newW_blk W 28 (rgV x)
  have hup := fun w' => newW_up W 28 (rgV x) (w' := w')
  generalize hU : newW W 28 (rgV x) = U at hw hb0 hup
  have H0 := Lib.hid (nums3 (B := W.heap.size + 1) (b := W.heap.size + 1) (D := []) (u := U) c s 1 hc hs (by unfold i64; omega) (by simp only [List.length_append, List.length_nil]; omega))
  have H1 := Lib.hid (rang_any (B := W.heap.size + 1) (b := W.heap.size + 1) (D := [] ++ (numL c ++ (numL s ++ numL 1))) (u := U) x hok (by simp only [List.length_append, List.length_nil]; omega))
  have HE : Hid ([] ++ (numL c ++ (numL s ++ numL 1)) ++ rgC.enc x = numL c ++ (numL s ++ (numL 1 ++ rgC.enc x))) := Lib.hid (by simp only [List.append_assoc, List.nil_append])
  have HB := Lib.hid hb0
  have HUP := Lib.hid hup
  have HW0 := Lib.hid hw
  have hT : (28 : TypeId) ≠ 5 := by decide
  clear hd hok he hb0 hup hw hc hs
  unfold newW at hU
  unfold rgV at *
  subst hU
  go_enter Try.func17, Try.ntmps17
  go_wp2_with (first
    | (go_at_call 38; (with_reducible refine (H0.out _ HW0.out _ (size2 _ _ _)).mono ?_); rintro e w1 ⟨rfl, hW⟩; have hk := hW.blk HB.out (ne_succ _) hT; have c0 := BlkAt.cell hk (i := 0) rfl; have c1 := BlkAt.cell hk (i := 1) rfl; have c2 := BlkAt.cell hk (i := 2) rfl; have c3 := BlkAt.cell hk (i := 3) rfl; have c4 := BlkAt.cell hk (i := 4) rfl; have c5 := BlkAt.cell hk (i := 5) rfl; have c6 := BlkAt.cell hk (i := 6) rfl; clear hk; have HW1 := Lib.hid hW; clear hW)
    | (go_at_call 47; (with_reducible refine (H1.out _ HW1.out).mono ?_); rintro e w2 ⟨rfl, hW⟩; have HW2 := Lib.hid (hW.cast HE.out); clear hW)
    | (go_at_call 43; (with_reducible refine (string_any _ _ _ _ HW2.out.at_ HNN.out).mono ?_); rintro e w6 ⟨rfl, hb6⟩))
  go_ret
  exact ⟨rfl, HUP.out _ (HW2.out.bel.trans hb6)⟩
set_option maxRecDepth 100000 in
set_option maxHeartbeats 1000000 in
theorem answers_any (x : Res) (hok : rsC.ok x) (v : Value) (L : List (Ans × Value)) (hd : (rsC.enc x).length ≤ 140737488355328) (W : World) (h : RsAt W x v L) :
    Calls Try.prog 20 #[.agg (rsV x v).toArray] W fun e w' => e = .returned (.string (bs (rsC.enc x))) ∧ Below W.heap.size W w' := by
  obtain ⟨a1, p1, rfl⟩ := h.h1.form
  have he : rsC.enc x = numL x.err ++ (numL x.rev ++ (flagC.enc x.thn ++ (listL_ anC.enc x.ans ++ numL x.ticks))) := rfl
  have hla : listL_ anC.enc x.ans = listL_ (fun p : Ans × Value => anC.enc p.1) L := by unfold listL_; rw [h.hL, List.length_map, List.flatMap_map]
  have HNN : Hid (rsC.enc x ≠ []) := Lib.hid (by rw [he]; intro e; exact numL_ne _ (List.append_eq_nil_iff.1 e).1)
  have hokL : L.length ≤ 10000 ∧ ∀ p ∈ L, anC.ok p.1 := by
    have h1 : x.ans.length ≤ 10000 ∧ ∀ y ∈ x.ans, anC.ok y := hok.2.2.2.1
    rw [h.hL, List.length_map] at h1
    exact ⟨h1.1, fun p hp => h1.2 _ (List.mem_map_of_mem hp)⟩
  rw [he, hla] at hd HNN ⊢
  simp only [List.length_append] at hd
  have hw := newW_ww W 48 (rsV x (.slice a1 L.length p1))
  have hb0 := newW_blk W 48 (rsV x (.slice a1 L.length p1))
  have hup := fun w' => newW_up W 48 (rsV x (.slice a1 L.length p1)) (w' := w')
  generalize hU : newW W 48 (rsV x (.slice a1 L.length p1)) = U at hw hb0 hup
  have HG := fun w' hb => h.grew (hup w' hb)
  have H0 := Lib.hid (nums2 (B := W.heap.size + 1) (b := W.heap.size + 1) (D := []) (u := U) x.err x.rev hok.1 hok.2.1 (by simp only [List.length_append, List.length_nil]; omega))
  have H1 := Lib.hid (flags1 (B := W.heap.size + 1) (b := W.heap.size + 1) (D := [] ++ (numL x.err ++ numL x.rev)) (u := U) x.thn (by simp only [List.length_append, List.length_nil]; omega))
  have H2 := Lib.hid (listAnswer_any (B := W.heap.size + 1) (b := W.heap.size + 1) (D := [] ++ (numL x.err ++ numL x.rev) ++ flagC.enc x.thn) (u := U) L a1 p1 (fun w' hb => (HG w' hb).h1) hokL (fun p hp w' hb => (HG w' hb).h2 p hp) (by simp only [List.length_append, List.length_nil]; omega))
  have H3 := Lib.hid (nums1 (B := W.heap.size + 1) (b := W.heap.size + 1) (D := [] ++ (numL x.err ++ numL x.rev) ++ flagC.enc x.thn ++ listL_ (fun p : Ans × Value => anC.enc p.1) L) (u := U) x.ticks hok.2.2.2.2 (by simp only [List.length_append, List.length_nil]; omega))
  have HE : Hid ([] ++ (numL x.err ++ numL x.rev) ++ flagC.enc x.thn ++ listL_ (fun p : Ans × Value => anC.enc p.1) L ++ numL x.ticks = numL x.err ++ (numL x.rev ++ (flagC.enc x.thn ++ (listL_ (fun p : Ans × Value => anC.enc p.1) L ++ numL x.ticks)))) := Lib.hid (by simp only [List.append_assoc, List.nil_append])
  have HB := Lib.hid hb0
  have HUP := Lib.hid hup
  have HW0 := Lib.hid hw
  have hT : (48 : TypeId) ≠ 5 := by decide
  have c0 := BlkAt.cell hb0 (i := 0) rfl
  have c1 := BlkAt.cell hb0 (i := 1) rfl
  clear h hd hok he hb0 hup hw HG hla hokL
  unfold newW at hU
  unfold rsV at *
  subst hU
  go_enter Try.func20, Try.ntmps20
  go_wp2_with (first
    | (go_at_call 38; (with_reducible refine (H0.out _ HW0.out _ (size2 _ _ _)).mono ?_); rintro e w1 ⟨rfl, hW⟩; have hk := hW.blk HB.out (ne_succ _) hT; have c2 := BlkAt.cell hk (i := 2) rfl; clear hk; have HW1 := Lib.hid hW; clear hW)
    | (go_at_call 49; (with_reducible refine (H1.out _ HW1.out _ rfl).mono ?_); rintro e w2 ⟨rfl, hW⟩; have hk := hW.blk HB.out (ne_succ _) hT; have c3 := BlkAt.cell hk (i := 3) rfl; clear hk; have HW2 := Lib.hid hW; clear hW)
    | (go_at_call 50; (with_reducible refine (H2.out _ HW2.out).mono ?_); rintro e w3 ⟨rfl, hW⟩; have hk := hW.blk HB.out (ne_succ _) hT; have c4 := BlkAt.cell hk (i := 4) rfl; clear hk; have HW3 := Lib.hid hW; clear hW)
    | (go_at_call 38; (with_reducible refine (H3.out _ HW3.out _ rfl).mono ?_); rintro e w4 ⟨rfl, hW⟩; have HW4 := Lib.hid (hW.cast HE.out); clear hW)
    | (go_at_call 43; (with_reducible refine (string_any _ _ _ _ HW4.out.at_ HNN.out).mono ?_); rintro e w6 ⟨rfl, hb6⟩))
  go_ret
  exact ⟨rfl, HUP.out _ (HW4.out.bel.trans hb6)⟩
end Go.Proofs.Ytlcblkmmkphpmaa
