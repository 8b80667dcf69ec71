/- The reference's disk: the walks of Append, Remove, Sync, Rename. Conditions: as each theorem says. -/
import Derived.Test.YtbaffabemomgjaaGreatDoorRfD
namespace Go.Proofs.YtbaffabemomgjaaGreatDoor
open Go.RowKit

theorem rowOf_set {α : Type} {enc : α → List Value} {k : Nat} (hlen : ∀ x, (enc x).length = k) (x' : α) (j : Nat) (hj : j < k) (v : Value) : ∀ (L : List α) (i : Nat) (hi : i < L.length), enc x' = (enc L[i]).set j v → (rowOf enc L).set (i * k + j) v = rowOf enc (L.set i x') := by
  intro L
  induction L with
  | nil => intro i hi; simp at hi
  | cons y r ih =>
    intro i hi hx
    have e : ∀ (z : α) (t : List α), rowOf enc (z :: t) = enc z ++ rowOf enc t := fun z t => by simp [rowOf]
    cases i with
    | zero =>
      rw [List.set_cons_zero, e, e, Nat.zero_mul, Nat.zero_add, List.set_append_left _ _ (by rw [hlen]; exact hj)]
      rw [hx]; rfl
    | succ n =>
      rw [List.set_cons_succ, e, e, List.set_append_right _ _ (by rw [hlen, Nat.succ_mul]; omega), hlen]
      have : (n + 1) * k + j - k = n * k + j := by rw [Nat.succ_mul]; omega
      rw [this, ih n (by simpa using hi) hx]
theorem put_at {M : Dir} (hs : M.sorted) (i : Nat) (hi : i < M.length) (f : Fil) : M.set i (M[i].1, f) = putM M M[i].1 f := by
  have e : M = M.take i ++ (M[i].1, M[i].2) :: M.drop (i + 1) := by
    rw [show (M[i].1, M[i].2) = M[i] from rfl, ← List.drop_eq_getElem_cons hi, List.take_append_drop]
  have hs2 := hs
  rw [e] at hs2
  have h := put_mid (f' := f) hs2
  rw [← e] at h
  rw [h, List.set_eq_take_append_cons_drop, if_pos hi]
section
variable {base g : Nat} {d : Dk} {w : World}
theorem RdIn.ne {gb cap : Nat} (h : RdIn base g d (some ⟨gb, 0, none⟩) cap w) : gb ≠ g := by
  intro e
  rcases h.off with q | q
  · simp [Value.ownBlock] at q
  · exact q (by simp [Value.ownBlock, e])
theorem RdIn.poke {gb cap : Nat} (h : RdIn base g d (some ⟨gb, 0, none⟩) cap w) (i : Nat) (hi : i < d.m.length) (j : Nat) (hj : j < 3) (v : Value) (x' : Bys × Fil) (hx : rfC x' = (rfC d.m[i]).set j v) :
    RdIn base g { d with m := d.m.set i x' } (some ⟨gb, 0, none⟩) cap (w.setCell ⟨gb, i * 3 + j, none⟩ v) ∧ w.grownBy (w.setCell ⟨gb, i * 3 + j, none⟩ v) (some gb) := by
  obtain ⟨h1, h2⟩ := World.ownsRow.stored h.rows (i * 3 + j) v
  have hne := h.ne
  refine ⟨⟨?_, ?_, h.le⟩, h2⟩
  · have hb := h.blk
    have : BlkAt g RdT (rdC (.slice (some ⟨gb, 0, none⟩) d.m.length cap) d) (w.setCell ⟨gb, i * 3 + j, none⟩ v) := by
      unfold BlkAt at hb ⊢
      rw [heap_setCell_other _ _ _ _ (fun e => hne (by simpa using e.symm))]
      exact hb
    simpa [rdC] using this
  · unfold GrowF Grow
    rw [← rowOf_set rf_len x' j hj v d.m i hi hx, List.length_set]
    exact h1
theorem RdIn.up {gb cap : Nat} (h : RdIn base g d (some ⟨gb, 0, none⟩) cap w) (hn : 0 < d.m.length) : base ≤ gb := by
  obtain ⟨gb2, ha, hle, _⟩ := h.get 0 hn
  have : gb = gb2 := by simpa using ha
  omega
set_option maxRecDepth 100000 in
set_option maxHeartbeats 1000000 in
theorem rremove_just (h : RdAt base g d w) (hf : d.fit) (hn : d.m.length < 900000) (k : Bys) : Calls Tryz.prog 30 #[ptrV g, strV k] w fun e w' => e = .returned (.int .i64 (removeD d k).2) ∧ RdAt base g (removeD d k).1 w' ∧ Apart (Just g) w w' := by
  have HA := Lib.hid (at_any h (by omega) k)
  have HT := Lib.hid (ract_any h hf)
  have HD := Lib.hid (fun (W : World) (hW : RdAt base g (actD d) W) => rdrop_any hW (by rw [act_m]; exact hn) k)
  obtain ⟨a, cap, h⟩ := h
  have c3 := h.blk.cell (i := 3) rfl
  have hle := h.le
  have H := Lib.hid h
  clear h
  obtain ⟨R, hR⟩ : ∃ R, R = removeD d k := ⟨_, rfl⟩
  rw [← hR]
  unfold ptrV strV at *
  cases hd : d.dead with
  | true =>
    as_aux_lemma =>
    have e : R = (d, 20) := by rw [hR]; unfold removeD thereD; rw [hd]; rfl
    rw [hd] at c3
    have HE := Lib.hid e
    clear hR hd e HA HT HD
    go_enter Tryz.func30, Tryz.ntmps30
    go_wp2
    go_ret
    rw [HE.out]
    exact ⟨rfl, ⟨a, cap, H.out⟩, Apart.refl _ _⟩
  | false =>
    rw [hd] at c3
    have HR := Lib.hid hR
    have hdd := Lib.hid hd
    have hs := hf.sorted
    clear hR hd hf
    go_enter Tryz.func30, Tryz.ntmps30
    go_wp2_with (fail)
    refine HA.out.mono ?_
    rintro e w1 ⟨r, rfl, hr, rfl⟩
    rcases hr with ⟨i, hi, rfl, hk⟩ | ⟨rfl, hno⟩
    · have hg : getM d.m k = some d.m[i].2 := by rw [← hk]; exact AtIs.some hs hi
      have ht := there_ok hdd.out hg
      have q1 : decide ((i : Int) < 0) = false := decide_eq_false (by omega)
      cases ha : (actD d).dead with
      | true =>
        as_aux_lemma =>
        have HE : Hid (R = (actD d, 20)) := Lib.hid (by rw [HR.out]; unfold removeD; rw [if_neg (by rw [ht]; decide), if_pos ha])
        rw [ha] at HT
        clear HR hk hg ht ha HD
        go_wp2_with (fail)
        refine HT.out.mono ?_
        rintro e w2 ⟨rfl, hD2, hg2⟩
        have HD2 := Lib.hid hD2
        have HU := Lib.hid (Apart.of_grown (F := Just g) hg2 (fun q hq => .inl (Option.some.inj hq).symm))
        have HAn := Lib.hid (answer_any false w2)
        simp only [Bool.not_true] at HAn ⊢
        clear hD2 hg2 HT
        go_wp2_with (go_at_call 46; refine HAn.out.mono ?_; rintro e w3 ⟨rfl, rfl⟩)
        go_ret
        rw [HE.out]
        exact ⟨rfl, HD2.out, HU.out⟩
      | false =>
        as_aux_lemma =>
        have HE : Hid (R = ({ actD d with m := delM d.m k }, 0)) := Lib.hid (by rw [HR.out]; unfold removeD; rw [if_neg (by rw [ht]; decide), if_neg (by rw [ha]; decide)])
        have hm := act_m d
        rw [ha] at HT
        clear HR hk hg ht ha
        go_wp2_with (fail)
        refine HT.out.mono ?_
        rintro e w2 ⟨rfl, hD2, hg2⟩
        have HD2 := Lib.hid hD2
        have HU := Lib.hid (Apart.of_grown (F := Just g) hg2 (fun q hq => .inl (Option.some.inj hq).symm))
        simp only [Bool.not_false]
        clear hD2 hg2 HT
        go_wp2_with (fail)
        refine (HD.out _ HD2.out).mono ?_
        rintro e w3 ⟨rfl, hD3, hA3⟩
        rw [hm] at hD3
        have hgl2 : g < w2.heap.size := by obtain ⟨a2, c2, h2⟩ := HD2.out; exact h2.blk.lt
        have HD3 := Lib.hid (hD3.at_ (base := base) (by omega) hle)
        have HU3 := Lib.hid (HU.out.trans hA3 (fun i hi => .inl hi))
        have HAn := Lib.hid (answer_any true w3)
        clear hD3 hA3
        go_wp2_with (go_at_call 46; refine HAn.out.mono ?_; rintro e w3 ⟨rfl, rfl⟩)
        go_ret
        rw [HE.out]
        exact ⟨rfl, HD3.out, HU3.out⟩
    · as_aux_lemma =>
      have HE : Hid (R = (d, 21)) := Lib.hid (by rw [HR.out]; unfold removeD; rw [there_no hdd.out (get_none.2 hno), if_pos (by decide)])
      clear HR hno HT HD
      go_wp2
      go_ret
      rw [HE.out]
      exact ⟨rfl, ⟨a, cap, H.out⟩, Apart.refl _ _⟩
theorem rremove_any (h : RdAt base g d w) (hf : d.fit) (hn : d.m.length < 900000) (k : Bys) : Calls Tryz.prog 30 #[ptrV g, strV k] w (RdDone base g (removeD d k).1 (removeD d k).2 w) :=
  (rremove_just h hf hn k).mono fun e w' ⟨h1, h2, h3⟩ => ⟨h1, h2, just_up h3 (by obtain ⟨a, cap, q⟩ := h; exact q.le)⟩
end
end Go.Proofs.YtbaffabemomgjaaGreatDoor
