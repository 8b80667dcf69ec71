/- The walks of played and done. Conditions: as each theorem says. -/
import Derived.Test.YteoibolompiohaaIdxSe
namespace Go.Proofs.Yteoibolompiohaa
open Go.RowKit

def stepC (C : List Pr) (o : Opr) : List Pr := if kindI o.kind = 2 then delF C o.key else if kindI o.kind = 3 then C else insF C o.key o.n
section
variable {m : Mem} {w : World} {B hi : Nat} {C : List Pr}
theorem Tree.up {hi' : Nat} (h : Tree B hi m C w) (h1 : hi ≤ hi') (h2 : hi' ≤ 1000) : Tree B hi' m C w := by
  obtain ⟨⟨t, d, q1, q2, q3, q4⟩, h5, h6⟩ := h
  exact ⟨⟨t, d, q1, ⟨q2.good, q2.top, q2.all, q2.sorted, q2.many, Nat.le_trans q2.most h1, Nat.le_trans q2.few h1⟩, q3, q4⟩, h5, h2⟩
theorem Tree.g_ge (h : Tree B hi m C w) : B ≤ w.heap.size := by
  have h1 := h.fresh _ (.inl rfl)
  have h2 := h.foot_lt (b := m.g) (.inl rfl)
  omega
theorem ins_short (C : List Pr) (k : Key) (n : Int) : (insF C k n).length ≤ C.length + 1 := by rw [insF_length]; split <;> omega
theorem Turned.blk {m m' : Mem} {w w' : World} (s : Turned B m m' w w') {g : Nat} {T : TypeId} {cs : List Value} (h : BlkAt g T cs w) (hn : ¬ m.foot g) : BlkAt g T cs w' ∧ ¬ m'.foot g := by
  obtain ⟨h1, h2⟩ := s.far g h.lt hn
  refine ⟨?_, h2⟩
  unfold BlkAt at *
  rw [h1]; exact h
def PlayedGot (B hi : Nat) (m : Mem) (C : List Pr) (w : World) (e : Ending) (w' : World) : Prop := ∃ m' v', e = .returned (.tuple #[v', .bool true]) ∧ Tree B hi m' C w' ∧ RefAt C v' w' ∧ Turned B m m' w w'
set_option maxRecDepth 100000 in
set_option maxHeartbeats 2000000 in
theorem played_any (h : Tree B hi m C w) (v : Value) (hr : RefAt C v w) (o : Opr) (hh : hi + 1 ≤ 1000) :
    Calls Try.prog 11 #[ptrV m.g, v, oprV o] w (PlayedGot B (hi + 1) m (stepC C o) w) := by
  have hb0 := alloc_below w (.cells #[.int .i64 o.kind, .string (bs o.key), .int .i64 o.n] 29)
  have hbx := BlkAt.alloc_new w [.int .i64 o.kind, .string (bs o.key), .int .i64 o.n] 29
  have HK := Lib.hid (kind_any o (w.alloc (.cells #[.int .i64 o.kind, .string (bs o.key), .int .i64 o.n] 29)))
  have hle := h.len
  have hnf : ¬ m.foot w.heap.size := fun hf => by have := h.foot_lt hf; omega
  unfold stepC oprV ptrV
  unfold oprV at HK
  obtain ⟨K, hK⟩ : ∃ K, K = kindI o.kind := ⟨_, rfl⟩
  rw [← hK] at HK ⊢
  have H := Lib.hid (h.grew hb0)
  have HR := Lib.hid (show RefAt C v _ from Grow.below hr hb0)
  have HB0 := Lib.hid hb0
  have HBx := Lib.hid hbx
  obtain ⟨a0, c0, hv⟩ := hr.slice
  obtain ⟨ky, hky⟩ : ∃ ky, ky = o.key := ⟨_, rfl⟩
  obtain ⟨nn, hnn⟩ : ∃ nn, nn = o.n := ⟨_, rfl⟩
  obtain ⟨kk, hkk⟩ : ∃ kk, kk = o.kind := ⟨_, rfl⟩
  simp only [← hky, ← hnn, ← hkk] at HK H HR HB0 HBx ⊢
  have hgx : Hid (w.heap.size < (w.alloc (.cells #[.int .i64 kk, .string (bs ky), .int .i64 nn] 29)).heap.size) := Lib.hid (by simp)
  have HL := Lib.hid (And.intro hle hh)
  obtain ⟨R, hR⟩ : ∃ R, R = (if K = 2 then delF C ky else if K = 3 then C else insF C ky nn) := ⟨_, rfl⟩
  rw [← hR]
  have HRes := Lib.hid hR
  clear h hr hb0 hbx hK hky hnn hkk hle hh hR
  subst hv
  go_enter Try.func11, Try.ntmps11
  go_upto_region 5 with (fail)
  obtain ⟨gx, hgx2⟩ : ∃ gx, gx = w.heap.size := ⟨_, rfl⟩
  rw [← hgx2] at HBx hgx hnf ⊢
  clear hgx2
  have HBx : Hid (BlkAt gx 29 [.int .i64 kk, .string (bs ky), .int .i64 nn] (w.alloc (.cells #[.int .i64 kk, .string (bs ky), .int .i64 nn] 29))) := HBx
  generalize (w.alloc (.cells #[.int .i64 kk, .string (bs ky), .int .i64 nn] 29)) = w0 at *
  have x0 := HBx.out.cell (i := 0) rfl
  have x1 := HBx.out.cell (i := 1) rfl
  have x2 := HBx.out.cell (i := 2) rfl
  by_cases h2 : K = 2
  · subst h2
    have hR := HRes.out
    rw [if_pos rfl] at hR
    have HRq := Lib.hid hR
    clear HRes hR
    have k2 : ((2 : Int) == 2) = true := rfl
    go_upto_region 9 with (go_at_call 24; (with_reducible refine HK.out.mono ?_); rintro e w1 ⟨rfl, hb1⟩)
    have HX1 := Lib.hid (HBx.out.grew hb1)
    have HR1 := Lib.hid (show RefAt C _ w1 from Grow.below HR.out hb1)
    have T1 := H.out.grew hb1
    have HU1 : Hid (Turned B m m w w1) := Lib.hid (Turned.of_below (HB0.out.trans (hb1.mono HB0.out.size)))
    have x1 := HX1.out.cell (i := 1) rfl
    have x2 := HX1.out.cell (i := 2) rfl
    clear hb1 HBx HR H HB0 hgx HK x0
    have HS := Lib.hid (tree_del T1 ky)
    unfold DelGot ptrV at HS
    go_upto_region 10 with (go_at_call 22; (with_reducible refine HS.out.mono ?_); rintro e w2 ⟨m2, rfl, T2, u2⟩)
    obtain ⟨hx2, hnf2⟩ := u2.blk HX1.out hnf
    have hr2 := u2.row HR1.out (by decide) (by decide) (by decide) (by decide)
    have x1 := hx2.cell (i := 1) rfl
    have x2 := hx2.cell (i := 2) rfl
    have HRf := Lib.hid (refDelete_any C _ (by have := HL.out; omega) ky w2 hr2)
    unfold RSetGot at HRf
    have HT2 := Lib.hid T2
    have HU2 := Lib.hid (HU1.out.trans u2)
    clear T2 u2 hx2 hnf2 hr2 HS
    go_upto_region 14 with (go_at_call 27; (with_reducible refine HRf.out.mono ?_); rintro e w3 ⟨v3, rfl, hR3, hb3⟩)
    obtain ⟨a3, c3, hv3⟩ := hR3.slice
    have HR3 := Lib.hid hR3
    subst hv3
    have T3 := HT2.out.grew hb3
    have HLen := Lib.hid (tree_len T3)
    unfold ptrV at HLen
    rw [HU2.out.g] at HLen
    have HG3 := Lib.hid (And.intro T3 (HU2.out.trans (Turned.of_below hb3)))
    clear hR3 hb3 T3 HRf x1 x2
    go_wp2_with (go_at_call 20; (with_reducible refine HLen.out.mono ?_); rintro e w' ⟨rfl, rfl⟩)
    go_ret2
    obtain ⟨T3, u3⟩ := HG3.out
    rw [HRq.out]
    exact ⟨m2, _, rfl, T3.up (Nat.le_succ _) HL.out.2, HR3.out, u3⟩
  · by_cases h3 : K = 3
    · subst h3
      have hR := HRes.out
      rw [if_neg (by omega), if_pos rfl] at hR
      have HRq := Lib.hid hR
      clear HRes hR
      have k2 : ((3 : Int) == 2) = false := rfl
      have k3 : ((3 : Int) == 3) = true := rfl
      go_upto_region 12 with (go_at_call 24; (with_reducible refine HK.out.mono ?_); rintro e w1 ⟨rfl, hb1⟩)
      have HX1 := Lib.hid (HBx.out.grew hb1)
      have HR1 := Lib.hid (show RefAt C _ w1 from Grow.below HR.out hb1)
      have T1 := H.out.grew hb1
      have HU1 : Hid (Turned B m m w w1) := Lib.hid (Turned.of_below (HB0.out.trans (hb1.mono HB0.out.size)))
      have x1 := HX1.out.cell (i := 1) rfl
      have x2 := HX1.out.cell (i := 2) rfl
      clear hb1 HBx HR H HB0 hgx HK x0
      have HS := Lib.hid (tree_get T1 ky)
      unfold ptrV at HS
      go_upto_region 13 with (go_at_call 19; (with_reducible refine HS.out.mono ?_); rintro e w2 ⟨rfl, hb2⟩)
      have x1 := (HX1.out.grew hb2).cell (i := 1) rfl
      have hr2 : RefAt C _ w2 := Grow.below HR1.out hb2
      have HRf := Lib.hid (refGet_any C _ (by have := HL.out; omega) ky w2 hr2)
      have T2 := T1.grew hb2
      have HG2 := Lib.hid (And.intro T2 (And.intro hr2 (HU1.out.trans (Turned.of_below (B := B) (m := m) hb2))))
      clear T2 hr2 hb2 HS T1
      go_upto_region 14 with (go_at_call 28; (with_reducible refine HRf.out.mono ?_); rintro e w3 ⟨rfl, hb3⟩)
      have T3 := HG2.out.1.grew hb3
      have HLen := Lib.hid (tree_len T3)
      unfold ptrV at HLen
      have HG3 := Lib.hid (And.intro T3 (And.intro (show RefAt C _ w3 from Grow.below HG2.out.2.1 hb3) (HG2.out.2.2.trans (Turned.of_below (B := B) (m := m) hb3))))
      clear T3 hb3 HRf x1 x2 HG2
      go_wp2_with (go_at_call 20; (with_reducible refine HLen.out.mono ?_); rintro e w' ⟨rfl, rfl⟩)
      go_ret2
      obtain ⟨T3, r3, u3⟩ := HG3.out
      rw [HRq.out]
      exact ⟨m, _, rfl, T3.up (Nat.le_succ _) HL.out.2, r3, u3⟩
    · have hR := HRes.out
      rw [if_neg h2, if_neg h3] at hR
      have HRq := Lib.hid hR
      clear HRes hR
      have k2 : (K == 2) = false := beq_eq_false_iff_ne.2 h2
      have k3 : (K == 3) = false := beq_eq_false_iff_ne.2 h3
      clear h2 h3
      go_upto_region 6 with (go_at_call 24; (with_reducible refine HK.out.mono ?_); rintro e w1 ⟨rfl, hb1⟩)
      have HX1 := Lib.hid (HBx.out.grew hb1)
      have HR1 := Lib.hid (show RefAt C _ w1 from Grow.below HR.out hb1)
      have T1 := H.out.grew hb1
      have HU1 : Hid (Turned B m m w w1) := Lib.hid (Turned.of_below (HB0.out.trans (hb1.mono HB0.out.size)))
      have x1 := HX1.out.cell (i := 1) rfl
      have x2 := HX1.out.cell (i := 2) rfl
      clear hb1 HBx HR H HB0 hgx HK x0
      have HS := Lib.hid (tree_set T1 ky nn (by have := HL.out; omega))
      unfold SetGot ptrV at HS
      go_upto_region 7 with (go_at_call 21; (with_reducible refine HS.out.mono ?_); rintro e w2 ⟨m2, rfl, T2, u2⟩)
      obtain ⟨hx2, hnf2⟩ := u2.blk HX1.out hnf
      have hr2 := u2.row HR1.out (by decide) (by decide) (by decide) (by decide)
      have x1 := hx2.cell (i := 1) rfl
      have x2 := hx2.cell (i := 2) rfl
      have HRf := Lib.hid (refSet_any C _ (by have := HL.out; omega) ky nn w2 hr2)
      unfold RSetGot at HRf
      have HT2 := Lib.hid T2
      have HU2 := Lib.hid (HU1.out.trans u2)
      clear T2 u2 hx2 hnf2 hr2 HS
      go_upto_region 14 with (go_at_call 29; (with_reducible refine HRf.out.mono ?_); rintro e w3 ⟨v3, rfl, hR3, hb3⟩)
      obtain ⟨a3, c3, hv3⟩ := hR3.slice
      have HR3 := Lib.hid hR3
      subst hv3
      have T3 := HT2.out.grew hb3
      have HLen := Lib.hid (tree_len T3)
      unfold ptrV at HLen
      rw [HU2.out.g] at HLen
      have HG3 := Lib.hid (And.intro T3 (HU2.out.trans (Turned.of_below hb3)))
      clear hR3 hb3 T3 HRf x1 x2
      go_wp2_with (go_at_call 20; (with_reducible refine HLen.out.mono ?_); rintro e w' ⟨rfl, rfl⟩)
      go_ret2
      obtain ⟨T3, u3⟩ := HG3.out
      rw [HRq.out]
      exact ⟨m2, _, rfl, T3.up (by have := HL.out; have := ins_short C ky nn; omega) HL.out.2, HR3.out, u3⟩
end
end Go.Proofs.Yteoibolompiohaa
