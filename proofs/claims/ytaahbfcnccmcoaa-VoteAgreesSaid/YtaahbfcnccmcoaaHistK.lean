/- The walk of the reference's Plan. Conditions: as each theorem says. -/
import Derived.Test.YtaahbfcnccmcoaaHistJ
namespace Go.Proofs.Ytaahbfcnccmcoaa
open Go.RowKit

/-- How the document says it. -/
def planR (L : List Ent) (begin last : Int × Int) : Int × (Int × Int) × List Ent :=
  if last = (if L.length = 0 then begin else lastZ L) then (1, last, [])
  else if lessZ last begin = true then (3, begin, L)
  else if findB L last = true ∨ last = begin then (1, last, L.drop (findN L last))
  else if findN L last = 0 then (2, begin, L)
  else (2, (L.getD (findN L last - 1) default).z, L.drop (findN L last))
/-- What the reference's Plan answers. -/
def RefSaid (r : Int × (Int × Int) × List Ent) (w : World) (e : Ending) (w' : World) : Prop :=
  ∃ a2 c2, e = .returned (.tuple #[.int .i64 r.1, zxidV r.2.1, .slice a2 r.2.2.length c2]) ∧ EntsAt w' (.slice a2 r.2.2.length c2) r.2.2 ∧ Below w.heap.size w w'
def FourAt (H : Nat) (b l r e : Int × Int) (w : World) : Prop :=
  w.heap[H]? = some (.cells #[.int .i64 b.1, .int .i64 b.2] 32 (0, 0)) ∧ w.heap[H + 1]? = some (.cells #[.int .i64 l.1, .int .i64 l.2] 32 (0, 0)) ∧ w.heap[H + 1 + 1]? = some (.cells #[.int .i64 r.1, .int .i64 r.2] 32 (0, 0)) ∧ w.heap[H + 1 + 1 + 1]? = some (.cells #[.int .i64 e.1, .int .i64 e.2] 32 (0, 0))
theorem four_new (w : World) (b l r e : Int × Int) : FourAt w.heap.size b l r e ((((w.alloc (.cells #[.int .i64 b.1, .int .i64 b.2] 32)).alloc (.cells #[.int .i64 l.1, .int .i64 l.2] 32)).alloc (.cells #[.int .i64 r.1, .int .i64 r.2] 32)).alloc (.cells #[.int .i64 e.1, .int .i64 e.2] 32)) := by
  obtain ⟨h0, h1, h2⟩ := three_new w (.cells #[.int .i64 b.1, .int .i64 b.2] 32) (.cells #[.int .i64 l.1, .int .i64 l.2] 32) (.cells #[.int .i64 r.1, .int .i64 r.2] 32)
  have hs : (((w.alloc (.cells #[.int .i64 b.1, .int .i64 b.2] 32)).alloc (.cells #[.int .i64 l.1, .int .i64 l.2] 32)).alloc (.cells #[.int .i64 r.1, .int .i64 r.2] 32)).heap.size = w.heap.size + 1 + 1 + 1 := by simp
  refine ⟨?_, ?_, ?_, ?_⟩
  · rw [Below.heap_alloc _ _ _ (by omega)]; exact h0
  · rw [Below.heap_alloc _ _ _ (by omega)]; exact h1
  · rw [Below.heap_alloc _ _ _ (by omega)]; exact h2
  · rw [← hs]; exact heap_alloc_new _ _
theorem FourAt.grew {H : Nat} {b l r e : Int × Int} {w w' : World} (h : FourAt H b l r e w) (hb : Below w.heap.size w w') : FourAt H b l r e w' :=
  ⟨Grew.at_ hb h.1, Grew.at_ hb h.2.1, Grew.at_ hb h.2.2.1, Grew.at_ hb h.2.2.2⟩
theorem FourAt.cells {H : Nat} {b l r e : Int × Int} {w : World} (h : FourAt H b l r e w) :
    (w.cell? ⟨H, 0, none⟩ = some (.int .i64 b.1) ∧ w.cell? ⟨H, 1, none⟩ = some (.int .i64 b.2)) ∧ (w.cell? ⟨H + 1, 0, none⟩ = some (.int .i64 l.1) ∧ w.cell? ⟨H + 1, 1, none⟩ = some (.int .i64 l.2)) ∧
    (w.cell? ⟨H + 1 + 1, 0, none⟩ = some (.int .i64 r.1) ∧ w.cell? ⟨H + 1 + 1, 1, none⟩ = some (.int .i64 r.2) ∧ w.frozen? ⟨H + 1 + 1, 0, none⟩ = false ∧ w.frozen? ⟨H + 1 + 1, 1, none⟩ = false) ∧
    (w.cell? ⟨H + 1 + 1 + 1, 0, none⟩ = some (.int .i64 e.1) ∧ w.cell? ⟨H + 1 + 1 + 1, 1, none⟩ = some (.int .i64 e.2) ∧ w.frozen? ⟨H + 1 + 1 + 1, 0, none⟩ = false ∧ w.frozen? ⟨H + 1 + 1 + 1, 1, none⟩ = false) := by
  obtain ⟨h0, h1, h2, h3⟩ := h
  refine ⟨⟨?_, ?_⟩, ⟨?_, ?_⟩, ⟨?_, ?_, Lib.frozen_of_heap h2 0, Lib.frozen_of_heap h2 1⟩, ⟨?_, ?_, Lib.frozen_of_heap h3 0, Lib.frozen_of_heap h3 1⟩⟩
  · rw [Lib.cell_of_heap h0]; rfl
  · rw [Lib.cell_of_heap h0]; rfl
  · rw [Lib.cell_of_heap h1]; rfl
  · rw [Lib.cell_of_heap h1]; rfl
  · rw [Lib.cell_of_heap h2]; rfl
  · rw [Lib.cell_of_heap h2]; rfl
  · rw [Lib.cell_of_heap h3]; rfl
  · rw [Lib.cell_of_heap h3]; rfl
theorem FourAt.setEnd {H : Nat} {b l r e : Int × Int} {w : World} (h : FourAt H b l r e w) (z : Int × Int) : FourAt H b l r z ((w.setCell ⟨H + 1 + 1 + 1, 0, none⟩ (.int .i64 z.1)).setCell ⟨H + 1 + 1 + 1, 1, none⟩ (.int .i64 z.2)) := by
  obtain ⟨h0, h1, h2, h3⟩ := h
  have g0 := Lib.heap_setCell_same (i := 0) h3 (.int .i64 z.1)
  have g1 := Lib.heap_setCell_same (i := 1) g0 (.int .i64 z.2)
  refine ⟨?_, ?_, ?_, g1⟩
  · rw [Below.heap_setCell _ _ _ _ (by simp; omega), Below.heap_setCell _ _ _ _ (by simp; omega)]; exact h0
  · rw [Below.heap_setCell _ _ _ _ (by simp), Below.heap_setCell _ _ _ _ (by simp)]; exact h1
  · rw [Below.heap_setCell _ _ _ _ (by simp), Below.heap_setCell _ _ _ _ (by simp)]; exact h2
theorem results_ref (tmps : Array Value) (w : World) (g : Nat) (v1 v2 : Value) (cs : Array Value) (fr : Nat × Nat)
    (h6 : tmps.getD 6 undef = v1) (h8 : tmps.getD 8 undef = v2) (hp : tmps.getD 7 undef = .pointer (some ⟨g, 0, none⟩)) (hg : w.heap[g]? = some (.cells cs 32 fr)) (hs : cs.size = 2) :
    (results Try.f17 tmps).run Try.prog w = .ok (.tuple #[v1, .agg cs, v2]) w := by
  have hres : Try.f17.results = #[.tmp 6, .cell 7 32, .tmp 8] := by kernel_rfl
  have hp' : tmps[7]?.getD undef = .pointer (some ⟨g, 0, none⟩) := by simpa using hp
  have h6' : tmps[6]?.getD undef = v1 := by simpa using h6
  have h8' : tmps[8]?.getD undef = v2 := by simpa using h8
  have hi : (Try.prog.info? 32).map (·.size) = some cs.size := by rw [hs]; kernel_rfl
  simp [results, hres, hp', h6', h8', asAddr, run_loadVar_row w g 32 32 cs fr _ hg Try.underlying32 rfl hi]
theorem ref_end (g : Nat) (w wq : World) (M : List Ent) (k n : Nat) (a2 : Option Addr) (c2 : Nat) (z : Int × Int) (tmps : Array Value) (x0 x1 : Value) (hgw : w.heap.size ≤ g)
    (hE : EntsAt w (.slice a2 n c2) M) (hn : n = M.length) (hb : Below w.heap.size w wq) (K2 : wq.heap[g]? = some (.cells #[x0, x1] 32 (0, 0)))
    (h6 : tmps.getD 6 undef = .int .i64 k) (h8 : tmps.getD 8 undef = .slice a2 n c2) (hp : tmps.getD 7 undef = .pointer (some ⟨g, 0, none⟩)) (W : World) (r : Int × (Int × Int) × List Ent) (hr : ((k : Int), z, M) = r) (hW : W = ((wq.setCell ⟨g, 0, none⟩ (.int .i64 z.1)).setCell ⟨g, 1, none⟩ (.int .i64 z.2)).drew ∨ W = (wq.setCell ⟨g, 0, none⟩ (.int .i64 z.1)).setCell ⟨g, 1, none⟩ (.int .i64 z.2)) :
    bodyPost Try.prog Try.f17 (fun e w' => RefSaid r w e w') Exit.ret ⟨tmps, []⟩ W := by
  subst hr
  have g0 := Lib.heap_setCell_same (i := 0) K2 (.int .i64 z.1)
  have g1 := Lib.heap_setCell_same (i := 1) g0 (.int .i64 z.2)
  subst hn
  have hB : Below w.heap.size w W := by
    have h := (hb.setCell (p := ⟨g, 0, none⟩) hgw (.int .i64 z.1)).setCell (p := ⟨g, 1, none⟩) hgw (.int .i64 z.2)
    rcases hW with rfl | rfl
    · exact h.drew
    · exact h
  refine bodyPost_ret (v := .tuple #[.int .i64 k, zxidV z, .slice a2 M.length c2]) ?_ rfl ⟨a2, c2, rfl, hE.grew hB, hB⟩
  have g2 : W.heap[g]? = some (.cells #[.int .i64 z.1, .int .i64 z.2] 32 (0, 0)) := by rcases hW with rfl | rfl <;> exact g1
  exact results_ref tmps _ g _ _ #[.int .i64 z.1, .int .i64 z.2] (0, 0) h6 h8 hp g2 rfl
set_option maxRecDepth 100000 in
set_option maxHeartbeats 1600000 in
theorem refplan_any (L : List Ent) (a : Option Addr) (cap : Nat) (begin last : Int × Int) (w : World) (hL : EntsAt w (.slice a L.length cap) L) (hn : L.length ≤ 1000000) (hlc : L.length ≤ cap) :
    Calls Try.prog 17 #[.slice a L.length cap, zxidV begin, zxidV last] w fun e w' => RefSaid (planR L begin last) w e w' := by
  have HRL := Lib.hid (fun w2 h2 => reflast_any L a cap w2 h2 (by omega))
  have HRN := Lib.hid (fun w2 h2 => reffind_any L a cap last w2 h2 (by omega))
  have H4 := Lib.hid (four_new w begin last (0, 0) begin)
  have HB4 : Hid (∀ o1 o2 o3 o4, Below w.heap.size w ((((w.alloc o1).alloc o2).alloc o3).alloc o4)) := fun o1 o2 o3 o4 => ((((Below.refl _ w).alloc (Nat.le_refl _) _).alloc (by simp) _).alloc (by simp; omega) _).alloc (by simp; omega) _
  unfold zxidV at HRL HRN ⊢
  have HO := Lib.hid (fun w2 (h : Below w.heap.size w w2) => hL.grew h)
  have HLL := Lib.hid (fun w2 => refless_any last begin w2)
  unfold zxidV at HLL
  generalize hr : planR L begin last = r at *
  unfold planR at hr
  have HR0 := Lib.hid hr
  clear hr
  generalize hend : (if L.length = 0 then begin else lastZ L) = en at *
  have HE := Lib.hid hend
  clear hend
  go_enter Try.func17, Try.ntmps17
  go_upto_if 15 with (fail)
  go_cut [] (fun wx => FourAt w.heap.size begin last (0, 0) en wx ∧ Below w.heap.size w wx ∧ w.heap.size + 1 + 1 + 1 < wx.heap.size)
  case first =>
    by_cases h0 : L.length = 0
    · have hd : L.length ≤ 0 := by omega
      have HE2 : Hid (begin = en) := by have := HE.out; rw [if_pos h0] at this; exact this
      clear h0
      go_wp2_with fail
      go_meet
      exact ⟨by rw [← HE2.out]; exact H4.out, HB4.out _ _ _ _, by simp⟩
    · have hd : 1 ≤ L.length := by omega
      have HE2 : Hid (lastZ L = en) := by have := HE.out; rw [if_neg h0] at this; exact this
      clear h0
      obtain ⟨_, _, _, e0, e1, f0, f1⟩ := H4.out.cells
      go_wp2_with fail
      refine (HRL.out _ (HO.out _ (HB4.out _ _ _ _))).mono ?_
      rintro e w2 ⟨rfl, hb2⟩
      have h4 := H4.out.grew hb2
      have hs2 := hb2.size
      simp at hs2
      obtain ⟨_, _, _, e0, e1, f0, f1⟩ := h4.cells
      have h5 := Lib.hid (h4.setEnd (lastZ L))
      have hb5 := Lib.hid ((((HB4.out _ _ _ _).trans (hb2.mono (by simp; omega))).setCell (p := ⟨w.heap.size + 1 + 1 + 1, 0, none⟩) (by simp; omega) (.int .i64 (lastZ L).1)).setCell (p := ⟨w.heap.size + 1 + 1 + 1, 1, none⟩) (by simp; omega) (.int .i64 (lastZ L).2))
      clear h4 hb2
      go_wp2_with fail
      go_meet
      exact ⟨by rw [← HE2.out]; exact h5.out, hb5.out, by simp; omega⟩
  case rest =>
    obtain ⟨h4', hb', hsz⟩ := hcut
    have h4 := Lib.hid h4'
    have hb := Lib.hid hb'
    obtain ⟨⟨b0, b1⟩, ⟨l0, l1⟩, ⟨r0, r1, rf0, rf1⟩, ⟨e0, e1, f0, f1⟩⟩ := h4.out.cells
    have HL := Lib.hid hL
    clear h4' hb' hL HRL H4 HB4 f0 f1 HE
    rcases zx_cases last en with ⟨hz, q0, q1⟩ | hne
    · as_aux_lemma =>
      rw [if_pos hz] at HR0
      clear hz
      go_wp2
      go_region
      go_wp2
      exact ref_end (w.heap.size + 1 + 1) w wc [] 1 0 none 0 last _ _ _ (by omega) ⟨none, 0, rfl, fun i hi => absurd hi (by simp)⟩ (by simp) hb.out h4.out.2.2.1 rfl rfl rfl _ _ HR0.out (by first | exact .inl rfl | exact .inr rfl)
    · have hz : last ≠ en := by
        rcases hne with h | h
        · exact h.1
        · exact h.1
      rw [if_neg hz] at HR0
      have hne2 : ((last.1 == en.1) = true ∧ (last.2 == en.2) = false) ∨ (last.1 == en.1) = false := by
        rcases hne with h | h
        · exact .inl h.2
        · exact .inr h.2
      clear hne hz
      by_cases hl : lessZ last begin = true
      · rw [if_pos hl] at HR0
        rw [hl] at HLL
        clear hl
        rcases hne2 with ⟨q0, q1⟩ | q0
        all_goals
          as_aux_lemma =>
          go_wp2_with fail
          refine (HLL.out _).mono ?_
          rintro e w3 ⟨rfl, hb3⟩
          have h4 := Lib.hid (h4.out.grew hb3)
          have hb := Lib.hid (hb.out.trans (hb3.mono hb.out.size))
          obtain ⟨⟨b0, b1⟩, ⟨l0, l1⟩, ⟨r0, r1, rf0, rf1⟩, _⟩ := h4.out.cells
          clear hb3 e0 e1
          go_wp2
          go_region
          go_wp2
          exact ref_end (w.heap.size + 1 + 1) w w3 L 3 L.length a cap begin _ _ _ (by omega) HL.out rfl hb.out h4.out.2.2.1 rfl rfl rfl _ _ HR0.out (by first | exact .inl rfl | exact .inr rfl)
      · rw [if_neg hl] at HR0
        rw [Bool.not_eq_true] at hl
        rw [hl] at HLL
        clear hl
        have hfl := findN_le L last
        have hk1 : ∀ h : findN L last - 1 < L.length, L.getD (findN L last - 1) default = L[findN L last - 1] := fun h => by simp [List.getD, h]
        have Hk1 := Lib.hid hk1
        clear hk1
        generalize findN L last = n at *
        generalize findB L last = fb at *
        have hsl : ∀ w, (Instr.sliceAt 33 (.slice a L.length cap) (some (.int .i64 (n : Int))) none none).run Try.prog w = .ok (.slice (slA a n cap) (L.length - n) (cap - n)) w := by
          intro w
          have h1 : (sizeOf (Try.prog.elem 33)).run Try.prog w = .ok 3 w := by kernel_rfl
          rw [run_sliceAt_slice w _ _ _ _ _ (by kernel_rfl), run_slice_l w 33 a L.length cap (by kernel_rfl) .i64 n (by omega) (by omega), h1]
          simp [sliced, slA]
        have HD := Lib.hid (ents_drop HL.out n (cap - n) hfl hlc)
        rcases hne2 with ⟨q0, q1⟩ | q0
        all_goals
          go_wp2_with fail
          refine (HLL.out _).mono ?_
          rintro e w3 ⟨rfl, hb3⟩
          have h4 := Lib.hid (h4.out.grew hb3)
          have hb := Lib.hid (hb.out.trans (hb3.mono hb.out.size))
          obtain ⟨⟨b0, b1⟩, ⟨l0, l1⟩, ⟨r0, r1, rf0, rf1⟩, _⟩ := h4.out.cells
          clear hb3 e0 e1
          go_wp2_with fail
          refine (HRN.out _ (HO.out _ hb.out)).mono ?_
          rintro e w4 ⟨rfl, hb4⟩
          have h4 := Lib.hid (h4.out.grew hb4)
          have hb := Lib.hid (hb.out.trans (hb4.mono hb.out.size))
          obtain ⟨⟨b0, b1⟩, ⟨l0, l1⟩, ⟨r0, r1, rf0, rf1⟩, _⟩ := h4.out.cells
          clear hb4
          cases fb with
          | true =>
            as_aux_lemma =>
            rw [if_pos (.inl rfl)] at HR0
            go_wp2
            go_region
            go_wp2
            exact ref_end (w.heap.size + 1 + 1) w w4 (L.drop n) 1 (L.length - n) (slA a n cap) (cap - n) last _ _ _ (by omega) HD.out (by simp) hb.out h4.out.2.2.1 rfl rfl rfl _ _ HR0.out (by first | exact .inl rfl | exact .inr rfl)
          | false =>
            rcases zx_cases last begin with ⟨hz, p0, p1⟩ | hne
            · as_aux_lemma =>
              rw [if_pos (.inr hz)] at HR0
              clear hz
              go_wp2
              go_region
              go_wp2
              exact ref_end (w.heap.size + 1 + 1) w w4 (L.drop n) 1 (L.length - n) (slA a n cap) (cap - n) last _ _ _ (by omega) HD.out (by simp) hb.out h4.out.2.2.1 rfl rfl rfl _ _ HR0.out (by first | exact .inl rfl | exact .inr rfl)
            · have hz : ¬ (false = true ∨ last = begin) := by
                rcases hne with h | h
                · simp [h.1]
                · simp [h.1]
              rw [if_neg hz] at HR0
              have hne3 : ((last.1 == begin.1) = true ∧ (last.2 == begin.2) = false) ∨ (last.1 == begin.1) = false := by
                rcases hne with h | h
                · exact .inl h.2
                · exact .inr h.2
              clear hne hz
              by_cases hn0 : n = 0
              · rw [if_pos hn0] at HR0
                have d0 : n ≤ 0 := by omega
                clear hn0
                rcases hne3 with ⟨p0, p1⟩ | p0
                all_goals
                  as_aux_lemma =>
                  go_wp2
                  go_region
                  go_wp2
                  exact ref_end (w.heap.size + 1 + 1) w w4 L 2 L.length a cap begin _ _ _ (by omega) HL.out rfl hb.out h4.out.2.2.1 rfl rfl rfl _ _ HR0.out (by first | exact .inl rfl | exact .inr rfl)
              · rw [if_neg hn0] at HR0
                have d0 : 1 ≤ n := by omega
                clear hn0
                have hi1 : n - 1 < L.length := by omega
                rw [Hk1.out hi1] at HR0
                obtain ⟨bb, off, ha, x0, x1, x2⟩ := ents_get (HO.out w4 hb.out) (n - 1) hi1
                subst ha
                rcases hne3 with ⟨p0, p1⟩ | p0
                all_goals
                  as_aux_lemma =>
                  go_wp2
                  go_region
                  go_wp2
                  exact ref_end (w.heap.size + 1 + 1) w w4 (L.drop n) 2 (L.length - n) (slA (some ⟨bb, off, none⟩) n cap) (cap - n) L[n - 1].z _ _ _ (by omega) HD.out (by simp) hb.out h4.out.2.2.1 rfl rfl rfl _ _ HR0.out (by first | exact .inl rfl | exact .inr rfl)
end Go.Proofs.Ytaahbfcnccmcoaa
