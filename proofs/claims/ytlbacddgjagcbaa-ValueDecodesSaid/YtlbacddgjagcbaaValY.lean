/- The walks of value's right at a Sync. Conditions: as each theorem says. -/
import Derived.Test.YtlbacddgjagcbaaValX
namespace Go.Proofs.Ytlbacddgjagcbaa
open Go.RowKit

def zxE (x : Ent) : Bool := zxB (x.e, x.c)
def allE (L : List Ent) : Bool := L.all zxE
set_option maxRecDepth 100000 in
theorem sright1_any (x : Ent) (w : World) : Calls Try.prog 86 #[entV x] w fun e w' => e = .returned (.bool (!zxE x)) ∧ Below w.heap.size w w' := by
  have HZ := Lib.hid (fun X => zxRight_any (x.e, x.c) X)
  have HE : Hid ((!zxE x) = !zxB (x.e, x.c)) := rfl
  generalize (!zxE x) = R at *
  generalize zxB (x.e, x.c) = Z at *
  unfold entV
  unfold zxidV at HZ
  simp only at HZ
  have hB := alloc_below w (.cells #[.int .i64 x.e, .int .i64 x.c, .string (bs x.b)] 69)
  go_enter Try.func86, Try.ntmps86
  go_wp2_with (fail)
  refine (HZ.out _).mono ?_
  rintro e w1 ⟨rfl, hb⟩
  go_wp2
  go_ret
  exact ⟨by rw [HE.out]; rfl, hB.trans (hb.mono hB.size)⟩
theorem allE_take (L : List Ent) (i : Nat) (hi : i < L.length) (h : allE (L.take i) = true) : allE (L.take (i + 1)) = zxE L[i] := by
  unfold allE at *
  rw [List.take_succ_eq_append_getElem hi, List.all_append, h]; simp
def outE (L : List Ent) : Int := if allE L = true then -1 else (L.findIdx fun x => !zxE x : Int)
theorem outE_at (L : List Ent) (i : Nat) (hi : i < L.length) (h : allE (L.take i) = true) (h1 : zxE L[i] = false) : outE L = (i : Int) := by
  have hw : allE L ≠ true := by
    intro hh
    unfold allE at hh
    rw [List.all_eq_true] at hh
    have := hh L[i] (List.getElem_mem hi)
    rw [h1] at this
    cases this
  unfold outE
  rw [if_neg hw]
  congr 1
  rw [List.findIdx_eq hi]
  refine ⟨by simp [h1], fun j hj => ?_⟩
  unfold allE at h
  rw [List.all_eq_true] at h
  have := h L[j] (by
    have : j < (L.take i).length := by rw [List.length_take]; omega
    rw [show L[j] = (L.take i)[j] by simp]
    exact List.getElem_mem this)
  simp [this]
set_option maxRecDepth 100000 in
set_option maxHeartbeats 1600000 in
theorem indexEnts_any (L : List Ent) (a : Option Addr) (cap : Nat) (hl : L.length ≤ 1000) (w : World) (h : EntsIn w a cap L) :
    Calls Try.prog 90 #[.slice a L.length cap, .func (Fn.func 86) #[] #[]] w fun e w' => e = .returned (.int .i64 (outE L)) ∧ Below w.heap.size w w' := by
  have HI := Lib.hid (outE_at L)
  have HE : Hid (allE L = true → outE L = -1) := fun hh => by unfold outE; rw [if_pos hh]
  have HH := Lib.hid (fun w' (hb : Below w.heap.size w w') => (h.grew hb).2.2.1)
  have hlc := h.1
  clear h
  generalize outE L = R at *
  go_enter Try.func90, Try.ntmps90
  go_wp2
  go_loopw [8] (fun v8 wr => ∃ (i : Nat), v8 = .int .i64 (i : Int) ∧ i ≤ L.length ∧ Hid (allE (L.take i) = true) ∧ Below w.heap.size w wr) (fun v8 _ => L.length - (intOf v8).toNat)
  case atStart => exact ⟨0, rfl, by omega, by show _ = _; simp [allE], Below.refl _ _⟩
  case round =>
    obtain ⟨i, rfl, hi, hw, hb⟩ := hrel
    by_cases hp : i < L.length
    · obtain ⟨bb, off, rfl, e0, e1, e2⟩ := ents_get (HH.out _ hb) i hp
      have HP := Lib.hid (fun X => sright1_any L[i] X)
      by_cases hz : zxE L[i] = true
      · as_aux_lemma =>
        have HW : Hid (allE (L.take (i + 1)) = true) := by show _ = _; rw [allE_take L i hp hw.out]; exact hz
        rw [hz] at HP
        generalize L[i] = x at *
        unfold entV at HP
        clear hz HH
        go_wp2_with (fail)
        refine (HP.out _).mono ?_
        rintro e w1 ⟨rfl, hb1⟩
        go_wp2
        go_roundw
        case rel => exact ⟨i + 1, by go_num, by omega, HW, hb.trans (hb1.mono hb.size)⟩
        case measure => simp [intOf]; omega
      · as_aux_lemma =>
        have hz' : zxE L[i] = false := by simpa using hz
        have HR : Hid (R = (i : Int)) := HI.out i hp hw.out hz'
        rw [hz'] at HP
        generalize L[i] = x at *
        unfold entV at HP
        clear hz hz' HH
        go_wp2_with (fail)
        refine (HP.out _).mono ?_
        rintro e w1 ⟨rfl, hb1⟩
        go_wp2
        go_ret
        exact ⟨by rw [HR.out]; rfl, hb.trans (hb1.mono hb.size)⟩
    · as_aux_lemma =>
      have HR : Hid (R = -1) := HE.out (by have := hw.out; rw [List.take_of_length_le (by omega)] at this; exact this)
      go_wp2
      go_ret
      exact ⟨by rw [HR.out]; rfl, hb⟩
set_option maxRecDepth 100000 in
theorem containsEnts_any (L : List Ent) (a : Option Addr) (cap : Nat) (hl : L.length ≤ 1000) (w : World) (h : EntsIn w a cap L) :
    Calls Try.prog 85 #[.slice a L.length cap, .func (Fn.func 86) #[] #[]] w fun e w' => e = .returned (.bool (!allE L)) ∧ Below w.heap.size w w' := by
  have HI := Lib.hid (indexEnts_any L a cap hl w h)
  have HR : Hid (decide (0 ≤ outE L) = !allE L) := by
    show _ = _
    unfold outE
    by_cases hw : allE L = true
    · rw [if_pos hw, hw]; rfl
    · rw [if_neg hw]
      have : allE L = false := by simpa using hw
      rw [this]
      exact decide_eq_true (by omega)
  generalize outE L = I at *
  go_enter Try.func85, Try.ntmps85
  go_wp2_with (fail)
  refine HI.out.mono ?_
  rintro e w1 ⟨rfl, hb⟩
  go_wp2
  go_ret
  exact ⟨by rw [← HR.out]; rfl, hb⟩
def syncB (k p : Int) (f z : Int × Int) (b : List UInt8) (L : List Ent) : Bool :=
  decide (1 ≤ k) && (decide (k ≤ 3) && (withinB [p] && (zxB f && (zxB z && (decide (L.length ≤ 1000) && ((decide (k = 3) || decide (b = [])) && allE L))))))
set_option maxRecDepth 100000 in
set_option maxHeartbeats 16000000 in
theorem syncRight_any (k p : Int) (f z : Int × Int) (b : List UInt8) (L : List Ent) (a : Option Addr) (cap : Nat) (w : World) (hE : EntsIn w a cap L) (hbl : b.length ≤ maxLen) :
    Calls Try.prog 72 #[syncV k p f z b (.slice a L.length cap)] w fun e w' => e = .returned (.bool (syncB k p f z b L)) ∧ Below w.heap.size w w' := by
  have HV : Hid (syncB k p f z b L = (decide (1 ≤ k) && (decide (k ≤ 3) && (withinB [p] && (zxB f && (zxB z && (decide (L.length ≤ 1000) && ((decide (k = 3) || decide (b = [])) && allE L)))))))) := rfl
  generalize syncB k p f z b L = V at *
  have HW := Lib.hid (fun g X hX => within_any [p] g 1 rfl (by omega) X hX)
  have HF := Lib.hid (fun X => zxRight_any f X)
  have HZ := Lib.hid (fun X => zxRight_any z X)
  have HC := Lib.hid (fun hl X hX => containsEnts_any L a cap hl X hX)
  have HX := Lib.hid (fun (X : World) g hg => ints_new X g hg [p] _ rfl)
  simp only [List.map_cons, List.map_nil] at HX
  generalize withinB [p] = B1 at *
  generalize zxB f = B2 at *
  generalize zxB z = B3 at *
  generalize allE L = B4 at *
  have hlc := Nat.le_trans hE.1 hE.2.1
  have hlen := hbl
  unfold maxLen at hlc hlen
  obtain ⟨f1, f2⟩ := f
  obtain ⟨z1, z2⟩ := z
  unfold zxidV at HF HZ
  simp only at HF HZ
  unfold syncV
  simp only
  obtain ⟨W, hW⟩ : ∃ X, X = w.alloc (.cells #[.int .i64 k, .int .i64 p, .int .i64 f1, .int .i64 f2, .int .i64 z1, .int .i64 z2, .string (bs b), .slice a L.length cap] 99) := ⟨_, rfl⟩
  have hB : Below w.heap.size w W := by rw [hW]; exact alloc_below w _
  have hk : W.heap[w.heap.size]? = some (.cells #[.int .i64 k, .int .i64 p, .int .i64 f1, .int .i64 f2, .int .i64 z1, .int .i64 z2, .string (bs b), .slice a L.length cap] 99 (0, 0)) := by rw [hW]; exact heap_alloc_new w _
  have HK := Lib.hid (fun X (hX : Below W.heap.size W X) => Grew.at_ hX hk)
  have HE := Lib.hid (fun X (hX : Below W.heap.size W X) => (hE.grew hB).grew hX)
  have HWe := Lib.hid hW
  have HB : Hid (∀ X, Below W.heap.size W X → Below w.heap.size w X) := fun X hX => hB.trans (hX.mono hB.size)
  have HM := HB
  clear hW hk hE hB hbl
  go_enter Try.func72, Try.ntmps72
  go_upto_region 1 with (fail)
  rw [← HWe.out]
  clear HWe HM
  generalize hg : w.heap.size = g at *
  have HG := Lib.hid hg
  clear hg
  have m0 : W.cell? ⟨g, 0, none⟩ = some (.int .i64 k) := by rw [Lib.cell_of_heap (HK.out _ (Below.refl _ _))]; rfl
  have m1 : W.cell? ⟨g, 1, none⟩ = some (.int .i64 p) := by rw [Lib.cell_of_heap (HK.out _ (Below.refl _ _))]; rfl
  have m2 : W.cell? ⟨g, 2, none⟩ = some (.int .i64 f1) := by rw [Lib.cell_of_heap (HK.out _ (Below.refl _ _))]; rfl
  have m3 : W.cell? ⟨g, 3, none⟩ = some (.int .i64 f2) := by rw [Lib.cell_of_heap (HK.out _ (Below.refl _ _))]; rfl
  have m4 : W.cell? ⟨g, 4, none⟩ = some (.int .i64 z1) := by rw [Lib.cell_of_heap (HK.out _ (Below.refl _ _))]; rfl
  have m5 : W.cell? ⟨g, 5, none⟩ = some (.int .i64 z2) := by rw [Lib.cell_of_heap (HK.out _ (Below.refl _ _))]; rfl
  have m6 : W.cell? ⟨g, 6, none⟩ = some (.string (bs b)) := by rw [Lib.cell_of_heap (HK.out _ (Below.refl _ _))]; rfl
  have m7 : W.cell? ⟨g, 7, none⟩ = some (.slice a L.length cap) := by rw [Lib.cell_of_heap (HK.out _ (Below.refl _ _))]; rfl
  by_cases h1 : 1 ≤ k
  case neg =>
    as_aux_lemma =>
    rw [decide_eq_false h1, Bool.false_and] at HV
    have t1 : decide (1 ≤ k) = false := decide_eq_false h1
    go_wp2
    go_ret
    exact ⟨by rw [HV.out]; rfl, by rw [HG.out]; exact HB.out _ (Below.refl _ _)⟩
  rw [decide_eq_true h1, Bool.true_and] at HV
  have t1 : decide (1 ≤ k) = true := decide_eq_true h1
  by_cases h2 : k ≤ 3
  case neg =>
    as_aux_lemma =>
    rw [decide_eq_false h2, Bool.false_and] at HV
    have t2 : decide (k ≤ 3) = false := decide_eq_false h2
    go_wp2
    go_ret
    exact ⟨by rw [HV.out]; rfl, by rw [HG.out]; exact HB.out _ (Below.refl _ _)⟩
  rw [decide_eq_true h2, Bool.true_and] at HV
  have t2 : decide (k ≤ 3) = true := decide_eq_true h2
  have hmk : ∀ o, Below W.heap.size W (W.alloc o) := fun o => alloc_below W o
  have Hmk := Lib.hid hmk
  clear hmk
  go_wp2_with (fail)
  refine (HW.out _ _ (HX.out _ _ rfl)).mono ?_
  rintro e w0 ⟨rfl, hw0⟩
  have hb1 : Below W.heap.size W w0 := by rw [← hw0]; exact Hmk.out _
  clear hw0 Hmk HW HX m0 m1 m2 m3 m4 m5 m6 m7
  have m0 : w0.cell? ⟨g, 0, none⟩ = some (.int .i64 k) := by rw [Lib.cell_of_heap (HK.out _ hb1)]; rfl
  have m1 : w0.cell? ⟨g, 1, none⟩ = some (.int .i64 p) := by rw [Lib.cell_of_heap (HK.out _ hb1)]; rfl
  have m2 : w0.cell? ⟨g, 2, none⟩ = some (.int .i64 f1) := by rw [Lib.cell_of_heap (HK.out _ hb1)]; rfl
  have m3 : w0.cell? ⟨g, 3, none⟩ = some (.int .i64 f2) := by rw [Lib.cell_of_heap (HK.out _ hb1)]; rfl
  have m4 : w0.cell? ⟨g, 4, none⟩ = some (.int .i64 z1) := by rw [Lib.cell_of_heap (HK.out _ hb1)]; rfl
  have m5 : w0.cell? ⟨g, 5, none⟩ = some (.int .i64 z2) := by rw [Lib.cell_of_heap (HK.out _ hb1)]; rfl
  have m6 : w0.cell? ⟨g, 6, none⟩ = some (.string (bs b)) := by rw [Lib.cell_of_heap (HK.out _ hb1)]; rfl
  have m7 : w0.cell? ⟨g, 7, none⟩ = some (.slice a L.length cap) := by rw [Lib.cell_of_heap (HK.out _ hb1)]; rfl
  cases B1
  case false =>
    as_aux_lemma =>
    rw [Bool.false_and] at HV
    go_wp2
    go_ret
    exact ⟨by rw [HV.out]; rfl, by rw [HG.out]; exact HB.out _ hb1⟩
  rw [Bool.true_and] at HV
  go_wp2_with (fail)
  refine (HF.out _).mono ?_
  rintro e w1 ⟨rfl, hx1⟩
  have hb2 := hb1.trans (hx1.mono hb1.size)
  clear hx1 HF m0 m1 m2 m3 m4 m5 m6 m7
  have m0 : w1.cell? ⟨g, 0, none⟩ = some (.int .i64 k) := by rw [Lib.cell_of_heap (HK.out _ hb2)]; rfl
  have m1 : w1.cell? ⟨g, 1, none⟩ = some (.int .i64 p) := by rw [Lib.cell_of_heap (HK.out _ hb2)]; rfl
  have m2 : w1.cell? ⟨g, 2, none⟩ = some (.int .i64 f1) := by rw [Lib.cell_of_heap (HK.out _ hb2)]; rfl
  have m3 : w1.cell? ⟨g, 3, none⟩ = some (.int .i64 f2) := by rw [Lib.cell_of_heap (HK.out _ hb2)]; rfl
  have m4 : w1.cell? ⟨g, 4, none⟩ = some (.int .i64 z1) := by rw [Lib.cell_of_heap (HK.out _ hb2)]; rfl
  have m5 : w1.cell? ⟨g, 5, none⟩ = some (.int .i64 z2) := by rw [Lib.cell_of_heap (HK.out _ hb2)]; rfl
  have m6 : w1.cell? ⟨g, 6, none⟩ = some (.string (bs b)) := by rw [Lib.cell_of_heap (HK.out _ hb2)]; rfl
  have m7 : w1.cell? ⟨g, 7, none⟩ = some (.slice a L.length cap) := by rw [Lib.cell_of_heap (HK.out _ hb2)]; rfl
  cases B2
  case false =>
    as_aux_lemma =>
    rw [Bool.false_and] at HV
    go_wp2
    go_ret
    exact ⟨by rw [HV.out]; rfl, by rw [HG.out]; exact HB.out _ hb2⟩
  rw [Bool.true_and] at HV
  go_wp2_with (fail)
  refine (HZ.out _).mono ?_
  rintro e w2 ⟨rfl, hx2⟩
  have hb3 := hb2.trans (hx2.mono hb2.size)
  clear hx2 HZ m0 m1 m2 m3 m4 m5 m6 m7
  have m0 : w2.cell? ⟨g, 0, none⟩ = some (.int .i64 k) := by rw [Lib.cell_of_heap (HK.out _ hb3)]; rfl
  have m1 : w2.cell? ⟨g, 1, none⟩ = some (.int .i64 p) := by rw [Lib.cell_of_heap (HK.out _ hb3)]; rfl
  have m2 : w2.cell? ⟨g, 2, none⟩ = some (.int .i64 f1) := by rw [Lib.cell_of_heap (HK.out _ hb3)]; rfl
  have m3 : w2.cell? ⟨g, 3, none⟩ = some (.int .i64 f2) := by rw [Lib.cell_of_heap (HK.out _ hb3)]; rfl
  have m4 : w2.cell? ⟨g, 4, none⟩ = some (.int .i64 z1) := by rw [Lib.cell_of_heap (HK.out _ hb3)]; rfl
  have m5 : w2.cell? ⟨g, 5, none⟩ = some (.int .i64 z2) := by rw [Lib.cell_of_heap (HK.out _ hb3)]; rfl
  have m6 : w2.cell? ⟨g, 6, none⟩ = some (.string (bs b)) := by rw [Lib.cell_of_heap (HK.out _ hb3)]; rfl
  have m7 : w2.cell? ⟨g, 7, none⟩ = some (.slice a L.length cap) := by rw [Lib.cell_of_heap (HK.out _ hb3)]; rfl
  cases B3
  case false =>
    as_aux_lemma =>
    rw [Bool.false_and] at HV
    go_wp2
    go_ret
    exact ⟨by rw [HV.out]; rfl, by rw [HG.out]; exact HB.out _ hb3⟩
  rw [Bool.true_and] at HV
  by_cases h6 : L.length ≤ 1000
  case neg =>
    as_aux_lemma =>
    rw [decide_eq_false h6, Bool.false_and] at HV
    have t6 : decide ((L.length : Int) ≤ 1000) = false := decide_eq_false (by omega)
    go_wp2
    go_ret
    exact ⟨by rw [HV.out]; rfl, by rw [HG.out]; exact HB.out _ hb3⟩
  rw [decide_eq_true h6, Bool.true_and] at HV
  have t6 : decide ((L.length : Int) ≤ 1000) = true := decide_eq_true (by omega)
  have HC := Lib.hid (HC.out h6 w2 (HE.out _ hb3))
  by_cases h7 : k = 3
  case pos =>
    as_aux_lemma =>
    rw [decide_eq_true h7, Bool.true_or, Bool.true_and] at HV
    have t7 : (k == 3) = true := beq_iff_eq.2 h7
    subst h7
    go_wp2_with (fail)
    refine HC.out.mono ?_
    rintro e w3 ⟨rfl, hx3⟩
    go_wp2
    go_ret
    exact ⟨by rw [HV.out]; cases B4 <;> rfl, by rw [HG.out]; exact HB.out _ (hb3.trans (hx3.mono hb3.size))⟩
  rw [decide_eq_false h7, Bool.false_or] at HV
  have t7 : (k == 3) = false := beq_eq_false_iff_ne.2 h7
  by_cases h8 : b = []
  case neg =>
    as_aux_lemma =>
    rw [decide_eq_false h8, Bool.false_and] at HV
    have t8 : ((bs b).toList == []) = false := by rw [bs_toList]; exact beq_eq_false_iff_ne.2 h8
    have t10 : ¬ bs b = ⟨#[]⟩ := fun h => h8 (bs_inj h)
    have t11 : (bs b).toList.isEmpty = false := by rw [bs_toList]; cases b <;> first | exact absurd rfl h8 | rfl
    go_wp2
    go_ret
    exact ⟨by rw [HV.out]; rfl, by rw [HG.out]; exact HB.out _ hb3⟩
  as_aux_lemma =>
  subst h8
  rw [decide_eq_true rfl, Bool.true_and] at HV
  have t8 : ((bs []).toList == []) = true := by rw [bs_toList]; rfl
  go_wp2_with (fail)
  refine HC.out.mono ?_
  rintro e w3 ⟨rfl, hx3⟩
  go_wp2
  go_ret
  exact ⟨by rw [HV.out]; cases B4 <;> rfl, by rw [HG.out]; exact HB.out _ (hb3.trans (hx3.mono hb3.size))⟩

set_option maxRecDepth 100000 in
set_option maxHeartbeats 1600000 in
theorem right_sync (k p : Int) (f z : Int × Int) (b : List UInt8) (L : List Ent) (a : Option Addr) (cap : Nat) (w : World) (hE : EntsIn w a cap L) (hbl : b.length ≤ maxLen) :
    Calls Try.prog 53 #[.iface 99 (syncV k p f z b (.slice a L.length cap))] w fun e w' => RightSaid (syncB k p f z b L) true w e w' := by
  have HZ := Lib.hid (fun X hX => syncRight_any k p f z b L a cap X hX hbl)
  generalize syncB k p f z b L = R at *
  obtain ⟨f1, f2⟩ := f
  obtain ⟨z1, z2⟩ := z
  unfold syncV at HZ ⊢
  simp only at HZ ⊢
  have n_vote := no_vote 99 (by decide) (.agg #[.int .i64 k, .int .i64 p, .int .i64 f1, .int .i64 f2, .int .i64 z1, .int .i64 z2, .string (bs b), .slice a L.length cap])
  have n_info := no_info 99 (by decide) (.agg #[.int .i64 k, .int .i64 p, .int .i64 f1, .int .i64 f2, .int .i64 z1, .int .i64 z2, .string (bs b), .slice a L.length cap])
  have y1 := yes_sync (.agg #[.int .i64 k, .int .i64 p, .int .i64 f1, .int .i64 f2, .int .i64 z1, .int .i64 z2, .string (bs b), .slice a L.length cap])
  have HE := Lib.hid (fun X (hX : Below w.heap.size w X) => hE.grew hX)
  clear hE hbl
  go_enter Try.func53, Try.ntmps53
  go_wp2_with (fail)
  refine (HZ.out _ (HE.out _ (alloc_below w _))).mono ?_
  rintro e w1 ⟨rfl, hb⟩
  have HB := Lib.hid ((alloc_below w _).trans (hb.mono (by simp)))
  go_wp2
  go_ret2
  exact ⟨rfl, HB.out⟩
end Go.Proofs.Ytlbacddgjagcbaa
