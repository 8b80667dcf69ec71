/- The walk of Compact, second part. Conditions: as each theorem says. -/
import Derived.Test.YtnliapdhmjljiaaGenCd
namespace Go.Proofs.Ytnliapdhmjljiaa
open Go.RowKit

theorem range4 {w : World} {b o : Nat} {v0 v1 v2 v3 : Value} (h0 : w.cell? ⟨b, o, none⟩ = some v0) (h1 : w.cell? ⟨b, o + 1, none⟩ = some v1) (h2 : w.cell? ⟨b, o + 2, none⟩ = some v2) (h3 : w.cell? ⟨b, o + 3, none⟩ = some v3) : w.rangeAt b o [v0, v1, v2, v3] := by
  intro j v hv
  match j, hv with
  | 0, hv => simp at hv; subst hv; exact h0
  | 1, hv => simp at hv; subst hv; exact h1
  | 2, hv => simp at hv; subst hv; exact h2
  | 3, hv => simp at hv; subst hv; exact h3
  | j + 4, hv => simp at hv
theorem sizeG_filter (p : Gn → Bool) : ∀ gs : List Gn, sizeG (gs.filter p) ≤ sizeG gs := by
  intro gs
  induction gs with
  | nil => exact Nat.le_refl _
  | cons g gs ih =>
    rw [List.filter_cons]
    have e : sizeG (g :: gs) = g.puts.length + 1 + sizeG gs := rfl
    by_cases h : p g = true
    · rw [if_pos h]
      have e2 : sizeG (g :: gs.filter p) = g.puts.length + 1 + sizeG (gs.filter p) := rfl
      omega
    · rw [if_neg h]; omega
def CompSaid (F : Nat → Prop) (kb : Nat) (s : Ks) (rev : Int) (w : World) (e : Ending) (w' : World) : Prop :=
  e = .returned (.bool (decide ((compK s rev).gs ≠ []))) ∧ KeyIn F kb (compK s rev) w' ∧ Apart F w w'
/-- What a generation cut short leaves of the key. -/
theorem comp_round {F : Nat → Prop} {kb g cap k : Nat} {C : List Gn} {last : Int} {qs : List Value} {wr wA : World} (rev : Int) (h : KeyAt F kb ⟨C, last⟩ (.slice (some ⟨g, 0, none⟩) C.length cap) qs wr) (hk : k < C.length) (hq : k < qs.length) (hA : Below wr.heap.size wr wA) (hn : 1 < upTo C[k].puts rev) :
    ∃ b o c, qs[k] = .slice (some ⟨b, o, none⟩) C[k].puts.length c ∧ C[k].puts.length ≤ c ∧ c ≤ maxLen ∧
      KeyAt F kb ⟨C.set k { C[k] with cut := C[k].cut + ((upTo C[k].puts rev : Int) - 1) }, last⟩ (.slice (some ⟨g, 0, none⟩) C.length cap) qs (wA.setCell ⟨g, k * 4 + 1, none⟩ (.int .i64 (C[k].cut + ((upTo C[k].puts rev : Int) - 1)))) ∧
      ∀ w3, Below (wA.setCell ⟨g, k * 4 + 1, none⟩ (.int .i64 (C[k].cut + ((upTo C[k].puts rev : Int) - 1)))).heap.size (wA.setCell ⟨g, k * 4 + 1, none⟩ (.int .i64 (C[k].cut + ((upTo C[k].puts rev : Int) - 1)))) w3 →
        (∃ qs', KeyAt F kb ⟨C.set k (cutG rev C[k]), last⟩ (.slice (some ⟨g, 0, none⟩) C.length cap) qs' (w3.setCell ⟨g, k * 4 + 2, none⟩ (.slice (some ⟨b, o + (upTo C[k].puts rev - 1), none⟩) (C[k].puts.length - (upTo C[k].puts rev - 1)) (C[k].puts.length - (upTo C[k].puts rev - 1))))) ∧
        Apart F wr (w3.setCell ⟨g, k * 4 + 2, none⟩ (.slice (some ⟨b, o + (upTo C[k].puts rev - 1), none⟩) (C[k].puts.length - (upTo C[k].puts rev - 1)) (C[k].puts.length - (upTo C[k].puts rev - 1)))) := by
  have hul := upTo_le C[k].puts rev
  obtain ⟨hgF, hgk⟩ := h.uF g rfl
  have hp : PutsAt wr qs[k] C[k].puts := h.puts k hk hq
  obtain ⟨b, o, c, hv, hlc, hcm, _⟩ := hp.cut (upTo C[k].puts rev - 1) (by omega)
  refine ⟨b, o, c, hv, hlc, hcm, ?_⟩
  have hbF : F b := (h.pF _ (List.getElem_mem hq) b (by rw [hv]; rfl)).1
  have hFv : ∀ i, (F i ∨ qs[k].ownBlock = some i) → F i := fun i hi => by
    rcases hi with hi | hi
    · exact hi
    · exact (h.pF _ (List.getElem_mem hq) i hi).1
  have hKA := h.grew hA
  have h2 := hKA.setP (g := g) (cap := cap) rfl k 1 hk hq (by omega) (.int .i64 (C[k].cut + ((upTo C[k].puts rev : Int) - 1))) { C[k] with cut := C[k].cut + ((upTo C[k].puts rev : Int) - 1) } qs[k] wA rfl (fun _ _ _ => rfl) (hKA.puts k hk hq) (fun b hb => .inl hb) (Nat.le_refl _)
  rw [List.set_getElem_self] at h2
  have h2' := h2.wider (G := F) hFv (fun i hi => h2.lt i (.inl hi))
  refine ⟨h2', fun w3 hw3 => ?_⟩
  have h3 := h2'.grew hw3
  have hk' : k < (C.set k { C[k] with cut := C[k].cut + ((upTo C[k].puts rev : Int) - 1) }).length := by rw [List.length_set]; exact hk
  have hp3 : PutsAt w3 qs[k] C[k].puts := by
    have := h3.puts k hk' hq
    simpa using this
  obtain ⟨b', o', c', hv', _, _, hcut⟩ := hp3.cut (upTo C[k].puts rev - 1) (by omega)
  rw [hv] at hv'
  simp only [Value.slice.injEq, Option.some.injEq, Addr.mk.injEq, and_true, true_and] at hv'
  obtain ⟨⟨rfl, rfl⟩, _⟩ := hv'
  have h4 := h3.setP (g := g) (cap := cap) (by simp) k 2 hk' hq (by omega) (.slice (some ⟨b, o + (upTo C[k].puts rev - 1), none⟩) (C[k].puts.length - (upTo C[k].puts rev - 1)) (C[k].puts.length - (upTo C[k].puts rev - 1))) (cutG rev C[k]) (.slice (some ⟨b, o + (upTo C[k].puts rev - 1), none⟩) (C[k].puts.length - (upTo C[k].puts rev - 1)) (C[k].puts.length - (upTo C[k].puts rev - 1))) w3
    (by simp only [List.getElem_set_self]; unfold cutG; rw [if_pos hn]; rfl) (fun _ _ _ => rfl) (by unfold cutG; rw [if_pos hn]; exact hcut) (fun i hi => .inl (by rw [hv]; exact hi)) (Nat.le_refl _)
  simp only [List.set_set] at h4
  refine ⟨⟨_, h4.wider (G := F) (fun i hi => ?_) (fun i hi => h4.lt i (.inl hi))⟩, ?_⟩
  · rcases hi with hi | hi
    · exact hi
    · have : b = i := by simpa [Value.ownBlock] using hi
      exact this ▸ hbF
  · exact (((Apart.of_below hA).trans (Apart.set (F := F) wA g _ _ hgF) (fun i hi => .inl hi)).trans (Apart.of_below hw3) (fun i hi => .inl hi)).trans (Apart.set (F := F) w3 g _ _ hgF) (fun i hi => .inl hi)
section
variable {F : Nat → Prop} {kb : Nat} {s : Ks} {u : Value} {ps : List Value} {w : World}
theorem KeyAt.noted (h : KeyAt F kb s u ps w) (w1 : World) (hb : Below w.heap.size w w1) : KeyAt F kb s u ps (w1.setCell ⟨kb, 0, none⟩ u) := by
  have h1 := h.grew hb
  have hk : BlkAt kb KeyT [u, .int .i64 s.last] (w1.setCell ⟨kb, 0, none⟩ u) := h1.key.set 0 u
  refine h1.kept (fun i hF => ?_) (by simp [World.setCell])
  by_cases e : i = kb
  · subst e
    have := h1.key
    unfold BlkAt at this hk
    rw [this, hk]
  · exact Below.heap_setCell _ _ _ _ e
set_option maxRecDepth 100000 in
set_option maxHeartbeats 1000000 in
theorem compact_any (h : KeyAt F kb s u ps w) (hsz : sizeG s.gs ≤ 100000) (hcut : ∀ g ∈ s.gs, 0 ≤ g.cut ∧ g.cut ≤ 1000000) (rev : Int) : Calls Try.prog 23 #[.pointer (some ⟨kb, 0, none⟩), .int .i64 rev] w (CompSaid F kb s rev w) := by
  rcases h.form with ⟨hu, hnil⟩ | ⟨g, cap, hu, hlc, hcm⟩
  · subst hu
    have k0 := h.k0
    have f0 := BlkAt.frozen h.key 0
    have hb0 := alloc_below w (.cells #[.int .i64 rev] 3)
    have hdel := Lib.hid (delete_nil rev w.heap.size _ (BlkAt.cell (BlkAt.alloc_new w [.int .i64 rev] 3) rfl))
    have hkl := h.lt kb h.kF
    have HE : Hid (∀ w1, Below (w.alloc (.cells #[.int .i64 rev] 3)).heap.size (w.alloc (.cells #[.int .i64 rev] 3)) w1 → KeyIn F kb (compK s rev) (w1.setCell ⟨kb, 0, none⟩ (.slice none 0 0)) ∧ Apart F w (w1.setCell ⟨kb, 0, none⟩ (.slice none 0 0)) ∧ w1.cell? ⟨kb, 0, none⟩ = some (.slice none 0 0) ∧ w1.frozen? ⟨kb, 0, none⟩ = false) := by
      apply Lib.hid
      intro w1 hb1
      have hb := hb0.trans (hb1.mono (by simp))
      have hs : compK s rev = s := by unfold compK; rw [hnil]; show (⟨[], s.last⟩ : Ks) = s; rw [← hnil]
      exact ⟨⟨_, ps, by rw [hs]; exact h.noted w1 hb⟩, (Apart.of_below hb).trans (Apart.set (F := F) w1 kb _ _ h.kF) (fun i hi => .inl hi), Grew.cell hb k0, (Below.frozen hb (p := ⟨kb, 0, none⟩) hkl).trans f0⟩
    have HC : Hid (decide ((compK s rev).gs ≠ []) = false) := Lib.hid (by unfold compK; rw [hnil]; rfl)
    clear h hnil hsz hcut hb0
    go_enter Try.func23, Try.ntmps23
    go_wp2_with (go_at_call 30; (with_reducible refine hdel.out.mono ?_); rintro e w1 ⟨rfl, hb1⟩; obtain ⟨hk1, ha1, d0, e0⟩ := HE.out w1 hb1; have HK1 := Lib.hid hk1; have HA1 := Lib.hid ha1; clear hk1 ha1 hb1)
    have c1 := World.cell?_setCell_same' w1 ⟨kb, 0, none⟩ (.slice none 0 0) (by rw [d0]; rfl)
    go_loopw [24] (fun i wr => i = .int .i64 0 ∧ wr = w1.setCell ⟨kb, 0, none⟩ (.slice none 0 0)) (fun _ _ => 0)
    case atStart => exact ⟨rfl, rfl⟩
    case round =>
      obtain ⟨rfl, rfl⟩ := hrel
      go_wp2
      go_ret
      exact ⟨by rw [HC.out]; rfl, HK1.out, HA1.out⟩
  · subst hu
    have hlen := sizeG_len s.gs
    have k0 := h.k0
    have hb0 := alloc_below w (.cells #[.int .i64 rev] 3)
    have h0 := h.grew hb0
    have hps := h.len
    have hrow : RowIn g cap (s.gs.zip ps) (w.alloc (.cells #[.int .i64 rev] 3)) := by
      have hz : (s.gs.zip ps).length = s.gs.length := by rw [List.length_zip]; omega
      have := h0.row
      rw [pairRow_zip, ← hz] at this
      exact rowIn_of_own this
    have hz : (s.gs.zip ps).length = s.gs.length := by rw [List.length_zip]; omega
    have hS : SlicesOf (s.gs.zip ps) := fun k hk => by
      rw [hz] at hk
      obtain ⟨a, c, e⟩ := (h.puts k hk (by rw [hps]; exact hk)).form
      exact ⟨a, _, c, by rw [List.getElem_zip]; exact e⟩
    have hBc : (w.alloc (.cells #[.int .i64 rev] 3)).cell? ⟨w.heap.size, 0, none⟩ = some (.int .i64 rev) := BlkAt.cell (BlkAt.alloc_new w [.int .i64 rev] 3) rfl
    have hgl := h.lt g (h.uF g rfl).1
    have hdel := delete_any g cap (s.gs.zip ps) rev w.heap.size _ hrow hS hBc (by omega) (by rw [hz]; omega) hcm (by rw [hz]; exact hlc)
    rw [hz] at hdel
    have HD := Lib.hid hdel
    have HF := Lib.hid (fun w1 => h.filtered rev _ w1 hb0)
    have hkbl := h.lt kb h.kF
    have hgk := (h.uF g rfl).2
    have HK0 : Hid (∀ w1, (w.alloc (.cells #[.int .i64 rev] 3)).grownBy w1 (some g) → w1.cell? ⟨kb, 0, none⟩ = some (.slice (some ⟨g, 0, none⟩) s.gs.length cap) ∧ w1.frozen? ⟨kb, 0, none⟩ = false ∧ (∀ v, BlkAt w.heap.size 3 [.int .i64 rev] (w1.setCell ⟨kb, 0, none⟩ v))) := by
      apply Lib.hid
      intro w1 hg
      have hb1 : BlkAt kb KeyT [.slice (some ⟨g, 0, none⟩) s.gs.length cap, .int .i64 s.last] w1 := h0.key.grown hg (fun e => hgk (Option.some.inj e).symm)
      refine ⟨hb1.cell rfl, hb1.frozen 0, fun v => ?_⟩
      have h3 : BlkAt w.heap.size 3 [.int .i64 rev] w1 := (BlkAt.alloc_new w [.int .i64 rev] 3).grown hg (fun e => by have := Option.some.inj e; omega)
      exact h3.grown (grown_set w1 kb 0 v) (fun e => by have := Option.some.inj e; omega)
    have hsub : sizeG (s.gs.filter (fun g => !goneG rev g)) ≤ 100000 ∧ ∀ gn ∈ s.gs.filter (fun g => !goneG rev g), 0 ≤ gn.cut ∧ gn.cut ≤ 1000000 := by
      exact ⟨Nat.le_trans (sizeG_filter _ _) hsz, fun gn hgn => hcut gn (List.mem_filter.1 hgn).1⟩
    have HSub := Lib.hid hsub
    have HFne0 : ∀ b, F b → b ≠ w.heap.size := fun b hb e => by have := h.lt b hb; omega
    have HFne := Lib.hid HFne0
    have hfl : ((s.gs.zip ps).filter (keepP rev)).length = (s.gs.filter (fun g => !goneG rev g)).length := by
      have := zip_filter_fst (fun g => !goneG rev g) s.gs ps hps
      rw [← this, List.length_map]; rfl
    have HC : Hid ((compK s rev).gs = (s.gs.filter (fun g => !goneG rev g)).map (cutG rev)) := Lib.hid rfl
    have hfle : (s.gs.filter (fun g => !goneG rev g)).length ≤ s.gs.length := List.length_filter_le _ _
    rw [hfl] at HF
    have HFL := Lib.hid hfl
    clear h h0 hrow hz hS hBc hdel hsub hsz hcut hfl HFne0
    generalize hgs : s.gs.filter (fun g => !goneG rev g) = gs1 at *
    go_enter Try.func23, Try.ntmps23
    go_wp2_with (go_at_call 30; (with_reducible refine HD.out.mono ?_); rintro e w1 ⟨rfl, hR1, hg1⟩; rw [HFL.out]; have HF1 := Lib.hid (HF.out w1 hg1 hR1); obtain ⟨d0, f0, hrv⟩ := HK0.out w1 hg1; have HRV1 := Lib.hid (hrv (.slice (some ⟨g, 0, none⟩) gs1.length cap)); have HRV := trivial; clear hR1 hg1 hrv)
    have hK1 := HF1.out
    have HRB : Hid (BlkAt w.heap.size 3 [.int .i64 rev] (w1.setCell ⟨kb, 0, none⟩ (.slice (some ⟨g, 0, none⟩) gs1.length cap))) := HRV1
    have HA0 := Lib.hid hK1.2
    have HQ0 := Lib.hid hK1.1
    have hF0 : Hid (∀ b, F b → b ≠ w.heap.size) := HFne
    clear hK1 HF HF1 HD HK0 d0 f0 HRV HFL
    generalize w1.setCell ⟨kb, 0, none⟩ (.slice (some ⟨g, 0, none⟩) gs1.length cap) = W1 at *
    have hl1 : gs1.length ≤ 100000 := Nat.le_trans (sizeG_len gs1) HSub.out.1
    obtain ⟨qs0, hq0⟩ := HQ0.out
    have hkc := hq0.k0
    have HQ := Lib.hid hq0
    clear hq0 HQ0
    go_wp2
    go_loopw [24] (fun i wr => ∃ (k : Nat) (qs : List Value), k ≤ gs1.length ∧ i = .int .i64 k ∧ KeyAt F kb ⟨cutTo rev gs1 k, s.last⟩ (.slice (some ⟨g, 0, none⟩) gs1.length cap) qs wr ∧ Apart F w wr ∧ BlkAt w.heap.size 3 [.int .i64 rev] wr) (fun i _ => gs1.length - (intOf i).toNat)
    case atStart => exact ⟨0, qs0, Nat.zero_le _, rfl, by rw [cutTo_zero]; exact HQ.out, HA0.out, HRB.out⟩
    case round =>
      obtain ⟨k, qs, hk, rfl, hKr, hAr, hBr⟩ := hrel
      have hkc := hKr.k0
      by_cases hlt : k < gs1.length
      · obtain ⟨C, hC⟩ : ∃ C, C = cutTo rev gs1 k := ⟨_, rfl⟩
        have hcl : C.length = gs1.length := by rw [hC]; exact cutTo_length rev gs1 k hk
        have hkC : k < C.length := by rw [hcl]; exact hlt
        have hget : C[k]'hkC = gs1[k] := by subst hC; exact cutTo_get rev gs1 k hlt
        have hsucc : cutTo rev gs1 (k + 1) = C.set k (cutG rev gs1[k]) := by rw [hC]; exact cutTo_succ rev gs1 k hlt
        rw [← hC] at hKr
        clear hC
        have hmem : gs1[k] ∈ gs1 := List.getElem_mem hlt
        obtain ⟨hcut0, hcut1⟩ := HSub.out.2 _ hmem
        have hpl := sizeG_puts gs1 _ hmem
        have hsz := HSub.out.1
        rw [← hget] at hsucc hcut0 hcut1 hpl
        have hgl2 : g < wr.heap.size := hKr.lt g (hKr.uF g rfl).1
        rw [← hcl] at hKr
        have hqk : k < qs.length := by rw [hKr.len]; exact hkC
        obtain ⟨c0, c1, c2, c3⟩ := hKr.gcells rfl k hkC hqk
        obtain ⟨pa, pc, hpv⟩ := (hKr.puts k hkC hqk).form
        have hput := hKr.puts k hkC hqk
        have HCR := Lib.hid (fun wA (hA : Below wr.heap.size wr wA) hn => comp_round rev hKr hkC hqk hA hn)
        have hrv := hBr.cell (i := 0) rfl
        have fr1 := (hKr.gcell rfl k hkC hqk 1 (by omega)).2
        have hul := upTo_le (C[k]'hkC).puts rev
        have HCG : Hid (¬ 1 < upTo (C[k]'hkC).puts rev → cutTo rev gs1 (k + 1) = C) := Lib.hid (fun hn => by
          rw [hsucc]
          unfold cutG
          rw [if_neg hn, List.set_getElem_self])
        have HSU := Lib.hid hsucc
        have HKr := Lib.hid hKr
        have HAr := Lib.hid hAr
        have HBr := Lib.hid hBr
        have hpl' : (C[k]'hkC).puts.length ≤ 100000 := by omega
        have HU : Hid (∀ W, Below wr.heap.size wr W → Calls Try.prog 29 #[.agg #[.int .i64 (C[k]'hkC).cr, .int .i64 (C[k]'hkC).cut, .slice pa (C[k]'hkC).puts.length pc, .int .i64 (C[k]'hkC).fin], .int .i64 rev] W fun e w' => e = .returned (.int .i64 (upTo (C[k]'hkC).puts rev : Int)) ∧ Below W.heap.size W w') :=
          Lib.hid (fun W hW => upTo_any _ _ rev W (by rw [← hpv]; exact hput.grew hW) (by omega))
        simp only at hpv c2
        rw [hpv] at c2
        have HPV := Lib.hid hpv
        have HHc := Lib.hid hcl
        clear hget hsucc hmem hKr hAr hBr hput hpv hpl hsz
        simp only at c0 c1 c3
        generalize C[k]'hkC = gn at *
        by_cases hn : 1 < upTo gn.puts rev
        · have hnI : decide ((1 : Int) < (upTo gn.puts rev : Int)) = true := decide_eq_true (by omega)
          go_wp2
          have hex := Grew.all wr
          refine wp_region_grew_tail 4 (by kernel_rfl) (by kernel_rfl) ?_
          simp only [List.take_succ_cons, List.take_zero, List.drop_succ_cons, List.drop_zero]
          repeat (first | go_big_quiet_skip | (go_big_quiet_want; first | (refine quiet_load_mid GnT _ rfl _ _ rfl [.int .i64 gn.cr, .int .i64 gn.cut, .slice pa gn.puts.length pc, .int .i64 gn.fin] _ (fun W hW => range4 (Grew.cell hW c0) (Grew.cell hW c1) (Grew.cell hW c2) (Grew.cell hW c3)) Try.underlying68 rfl (by kernel_rfl) ?_; simp only [Act.put, List.setIfInBounds_toArray, List.set_cons_succ, List.set_cons_zero]; go_big_quiet_on) | (refine quiet_load_cell _ _ rfl ⟨w.heap.size, 0, none⟩ rfl _ _ Try.underlying3 rfl (fun W hW => Grew.cell hW hrv) ?_; simp only [Act.put, List.setIfInBounds_toArray, List.set_cons_succ, List.set_cons_zero]; go_big_quiet_on) | (go_big_quiet_op; first | go_big_quiet_on | (apply Exists.intro; refine ⟨fun W hW => ?_, ?_⟩; (first | exact rfl); go_big_quiet_on))))
          refine wpQuiet_nil ?_
          intro w3 hw3
          clear hex
          have hCall := Lib.hid (HU.out w3 hw3)
          have HW3 := Lib.hid hw3
          clear hw3
          go_wp2_with (go_at_call 29; (with_reducible refine hCall.out.mono ?_); rintro e wA ⟨rfl, hbA⟩; have hbA' := Below.trans HW3.out (hbA.mono (Below.size HW3.out)); obtain ⟨b, o, c, hv, hlc1, hcm1, hK2, hK3⟩ := HCR.out wA hbA' hn; have HbA := Lib.hid hbA'; have HV := Lib.hid hv; have HK2 := Lib.hid hK2; have HK3 := Lib.hid hK3; have y1 := Grew.cell hbA' c1; have fy := (Below.frozen hbA' (p := ⟨g, k * 4 + 1, none⟩) hgl2).trans fr1; clear hbA hbA' hv hK2 hK3)
          have z2 := (HK2.out.gcells (g := g) (cap := cap) (by simp) k (by rw [List.length_set]; exact hkC) hqk).2.2.1
          rw [HPV.out] at z2
          have hv := HV.out
          rw [HPV.out] at hv
          simp only [Value.slice.injEq, true_and] at hv
          obtain ⟨rfl, rfl⟩ := hv
          have hgz : g < (wA.setCell ⟨g, k * 4 + 1, none⟩ (.int .i64 (gn.cut + ((upTo gn.puts rev : Int) - 1)))).heap.size := HK2.out.lt g (HK2.out.uF g rfl).1
          have fz := BlkAt.frozen HK2.out.key 0
          have hfz2 := (HK2.out.gcell (g := g) (cap := cap) (by simp) k (by rw [List.length_set]; exact hkC) hqk 2 (by omega)).2
          obtain ⟨nn, hnn⟩ : ∃ nn, upTo gn.puts rev = nn + 1 := ⟨upTo gn.puts rev - 1, by omega⟩
          have HNN := Lib.hid hnn
          rw [hnn] at hul hgz z2 hfz2 HK3 fz
          rw [hnn]
          simp only [Nat.add_sub_cancel] at HK3
          clear hn hnI hnn hCall HV HK2 y1 fy HU HCG c0 c1 c2 c3 hrv
          unfold maxLen at hcm1
          have e1 : ((nn + 1 : Nat) : Int) - 1 = (nn : Int) := by omega
          rw [e1] at hgz z2 hfz2 HK3 fz ⊢
          generalize hw2 : wA.setCell ⟨g, k * 4 + 1, none⟩ (.int .i64 (gn.cut + (nn : Int))) = w2 at *
          have e2 : IntKind.i64.wrap (((nn + 1 : Nat) : Int) - 1) = (nn : Int) := by rw [e1]; exact IntWalk.i64_in _ (by omega)
          have e4 : (nn : Int) + 1 - 1 = (nn : Int) := by omega
          have e5 : IntKind.i64.wrap ((nn : Int) + 1 - 1) = (nn : Int) := by rw [e4]; exact IntWalk.i64_in _ (by omega)
          have b0 : (0 : Int) ≤ (nn : Int) := by omega
          have b1 : (nn : Int) ≤ (gn.puts.length : Int) := by omega
          have b2 : (gn.puts.length : Int) ≤ (pc : Int) := by omega
          have hex := Grew.all w2
          refine wp_region_grew_tail 20 (by kernel_rfl) (by kernel_rfl) ?_
          simp only [List.take_succ_cons, List.take_zero, List.drop_succ_cons, List.drop_zero]
          repeat (first | go_big_quiet_skip | (go_big_quiet_want; first | (refine quiet_load_cell _ _ rfl ⟨g, k * 4 + 2, none⟩ rfl _ _ Try.underlying66 rfl (fun W hW => Grew.cell hW z2) ?_; simp only [Act.put, List.setIfInBounds_toArray, List.set_cons_succ, List.set_cons_zero]; go_big_quiet_on) | (go_big_quiet_op; first | go_big_quiet_on | (apply Exists.intro; refine ⟨fun W hW => ?_, ?_⟩; (first | exact rfl); go_big_quiet_on))))
          refine wpQuiet_nil ?_
          intro w4 hw4
          clear hex
          have z3 := Grew.cell hw4 z2
          have fz3 := (Below.frozen hw4 (p := ⟨g, k * 4 + 2, none⟩) hgz).trans hfz2
          have HE := Lib.hid (HK3.out w4 hw4)
          clear hw4 HK3
          go_wp2
          go_roundw
          case rel =>
            obtain ⟨⟨qs', hq⟩, ha⟩ := HE.out
            refine ⟨k + 1, qs', by omega, by go_num, ?_, HAr.out.trans ha (fun i hi => .inl hi), ha.blk HBr.out (fun hf => hF0.out _ hf rfl)⟩
            rw [HSU.out, ← HHc.out]
            exact hq
          case measure => simp [intOf]; omega
        · have hnI : decide ((1 : Int) < (upTo gn.puts rev : Int)) = false := decide_eq_false (by omega)
          have HCg := Lib.hid (HCG.out hn)
          clear hn
          go_wp2
          have hex := Grew.all wr
          refine wp_region_grew_tail 4 (by kernel_rfl) (by kernel_rfl) ?_
          simp only [List.take_succ_cons, List.take_zero, List.drop_succ_cons, List.drop_zero]
          repeat (first | go_big_quiet_skip | (go_big_quiet_want; first | (refine quiet_load_mid GnT _ rfl _ _ rfl [.int .i64 gn.cr, .int .i64 gn.cut, .slice pa gn.puts.length pc, .int .i64 gn.fin] _ (fun W hW => range4 (Grew.cell hW c0) (Grew.cell hW c1) (Grew.cell hW c2) (Grew.cell hW c3)) Try.underlying68 rfl (by kernel_rfl) ?_; simp only [Act.put, List.setIfInBounds_toArray, List.set_cons_succ, List.set_cons_zero]; go_big_quiet_on) | (refine quiet_load_cell _ _ rfl ⟨w.heap.size, 0, none⟩ rfl _ _ Try.underlying3 rfl (fun W hW => Grew.cell hW hrv) ?_; simp only [Act.put, List.setIfInBounds_toArray, List.set_cons_succ, List.set_cons_zero]; go_big_quiet_on) | (go_big_quiet_op; first | go_big_quiet_on | (apply Exists.intro; refine ⟨fun W hW => ?_, ?_⟩; (first | exact rfl); go_big_quiet_on))))
          refine wpQuiet_nil ?_
          intro w3 hw3
          clear hex
          have hCall := Lib.hid (HU.out w3 hw3)
          have HW3 := Lib.hid hw3
          clear hw3
          go_wp2_with (go_at_call 29; (with_reducible refine hCall.out.mono ?_); rintro e wA ⟨rfl, hbA⟩; have HbA := Lib.hid (Below.trans HW3.out (hbA.mono (Below.size HW3.out))); clear hbA)
          go_roundw
          case rel => exact ⟨k + 1, qs, by omega, by go_num, by rw [HCg.out, ← HHc.out]; exact HKr.out.grew HbA.out, HAr.out.trans (Apart.of_below (F := F) HbA.out) (fun i hi => .inl hi), HBr.out.grew HbA.out⟩
          case measure => simp [intOf]; omega
      · obtain rfl : k = gs1.length := by omega
        rw [cutTo_all] at hKr
        have HKr := Lib.hid hKr
        have HAr := Lib.hid hAr
        clear hKr hAr hBr
        by_cases hn0 : 0 < gs1.length
        · go_wp2
          go_ret
          refine ⟨?_, ⟨.slice (some ⟨g, 0, none⟩) gs1.length cap, qs, ?_⟩, HAr.out⟩
          · have : decide ((compK s rev).gs ≠ []) = true := by
              rw [HC.out]
              refine decide_eq_true (fun e => ?_)
              have := congrArg List.length e
              rw [List.length_map] at this
              simp at this
              rw [this] at hn0
              simp at hn0
            rw [this]; rfl
          · show KeyAt F kb ⟨(compK s rev).gs, s.last⟩ _ qs _
            rw [HC.out]; exact HKr.out
        · have hn1 : gs1.length = 0 := by omega
          have HN1 := Lib.hid hn1
          clear hn1
          go_wp2
          go_ret
          refine ⟨?_, ⟨.slice (some ⟨g, 0, none⟩) gs1.length cap, qs, ?_⟩, HAr.out⟩
          · have : decide ((compK s rev).gs ≠ []) = false := by
              rw [HC.out, List.eq_nil_of_length_eq_zero HN1.out]
              rfl
            rw [this]; rfl
          · show KeyAt F kb ⟨(compK s rev).gs, s.last⟩ _ qs _
            rw [HC.out]; exact HKr.out
end
end Go.Proofs.Ytnliapdhmjljiaa
