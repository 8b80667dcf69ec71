/- The law VotePlays, walked (printed by gen/genVoteW.py). Conditions: as each theorem says. -/
import Derived.Test.YtaahbfcnccmcoaaVoteRt
import Derived.Test.YtaahbfcnccmcoaaVotePl
import Derived.Test.YtaahbfcnccmcoaaVoteR
import Derived.Test.YtaahbfcnccmcoaaVoteU
namespace Go.Proofs.Ytaahbfcnccmcoaa
open Go.RowKit

theorem RpIn.apart {F G : Nat → Prop} {g : Nat} {r : Rp} {w w' : World} (h : RpIn F g r w) (hA : Apart G w w') (hG : ∀ i, F i → ¬ G i) : RpIn F g r w' := by
  obtain ⟨bt, bw, bs, bh, h⟩ := h
  have hb : ∀ {i : Nat} {T : TypeId} {cs : List Value}, BlkAt i T cs w → F i → BlkAt i T cs w' := fun {i T cs} hk hf => by
    have hl := hk.lt
    unfold BlkAt at *
    rw [hA.block i hl (hG i hf)]
    exact hk
  refine ⟨bt, bw, bs, bh, hb h.head h.fg, hb h.told h.ft, hb h.what h.fw, ?_, h.fg, h.ft, h.fw, fun i hi => Nat.lt_of_lt_of_le (h.lt i hi) hA.size⟩
  rcases h.st with hs | ⟨b1, b2, h1, h2, h3, h4, h5, h6, h7⟩
  · exact .inl hs
  · exact .inr ⟨b1, b2, h1, h2, h3, h4, h5, hb h6 h4, hb h7 h5⟩
abbrev OpT : TypeId := 58
/-- Both polls, apart. -/
structure Duo (w0 : World) (g : Nat) (p : Poll) (F : Nat → Prop) (gr : Nat) (r : Rp) (W : World) : Prop where
  left : PollAt g p W
  right : RpIn F gr r W
  sep : ¬ F g
  bel : Below w0.heap.size w0 W
  gN : w0.heap.size ≤ g
  FN : ∀ i, F i → w0.heap.size ≤ i
/-- Both polls and the call. -/
structure Trio (w0 : World) (g : Nat) (p : Poll) (F : Nat → Prop) (gr : Nat) (r : Rp) (B : Nat) (o : OpS) (W : World) : Prop extends Duo w0 g p F gr r W where
  box : BlkAt B OpT (opCells o) W
  bg : B ≠ g
  bF : ¬ F B
section
variable {w0 : World} {g : Nat} {p p' : Poll} {F : Nat → Prop} {gr : Nat} {r r' : Rp} {B : Nat} {o : OpS} {W W' : World}
theorem Duo.grew (h : Duo w0 g p F gr r W) (hb : Below W.heap.size W W') : Duo w0 g p F gr r W' :=
  ⟨BlkAt.grew h.left hb, h.right.apart (G := fun _ => False) (Apart.of_below hb) (fun _ _ h => h), h.sep, h.bel.trans (hb.mono h.bel.size), h.gN, h.FN⟩
theorem Duo.take (h : Duo w0 g p F gr r W) (hP : PollAt g p' W') (hg : W.grownBy W' (some g)) : Duo w0 g p' F gr r W' :=
  ⟨hP, h.right.apart (G := fun i => i = g) (Apart.of_grown hg (fun k hk => .inl (Option.some.inj hk).symm)) (fun i hi e => h.sep (e ▸ hi)), h.sep, h.bel.grown hg h.bel.size (fun k hk => by rw [← Option.some.inj hk]; exact h.gN), h.gN, h.FN⟩
theorem Duo.rtake (h : Duo w0 g p F gr r W) (hR : RpIn (Foot F W W') gr r' W') (hA : Apart F W W') : Duo w0 g p (Foot F W W') gr r' W' := by
  have hl := BlkAt.lt h.left
  have hs := h.bel.size
  refine ⟨?_, hR, ?_, ?_, h.gN, ?_⟩
  · have := hA.block g hl h.sep
    unfold PollAt BlkAt
    rw [this]
    exact h.left
  · rintro (e | e)
    · exact h.sep e
    · omega
  · exact h.bel.trans (hA.below hs h.FN)
  · rintro i (hi | hi)
    · exact h.FN i hi
    · omega
theorem Trio.grew (h : Trio w0 g p F gr r B o W) (hb : Below W.heap.size W W') : Trio w0 g p F gr r B o W' := ⟨h.toDuo.grew hb, h.box.grew hb, h.bg, h.bF⟩
theorem Trio.drew (h : Trio w0 g p F gr r B o W) : Trio w0 g p F gr r B o W.drew := h.grew ((Below.refl _ W).drew)
theorem Trio.take (h : Trio w0 g p F gr r B o W) (hP : PollAt g p' W') (hg : W.grownBy W' (some g)) : Trio w0 g p' F gr r B o W' :=
  ⟨h.toDuo.take hP hg, h.box.grown hg (fun e => h.bg (Option.some.inj e)), h.bg, h.bF⟩
theorem Trio.rtake (h : Trio w0 g p F gr r B o W) (hR : RpIn (Foot F W W') gr r' W') (hA : Apart F W W') : Trio w0 g p (Foot F W W') gr r' B o W' := by
  have hl := h.box.lt
  refine ⟨h.toDuo.rtake hR hA, ?_, h.bg, ?_⟩
  · have := hA.block B hl h.bF
    unfold BlkAt
    rw [this]
    exact h.box
  · rintro (e | e)
    · exact h.bF e
    · omega
theorem Trio.of_alloc (h : Duo w0 g p F gr r W) (o : OpS) : Trio w0 g p F gr r W.heap.size o (W.alloc (.cells (opCells o).toArray OpT)) := by
  have hl := BlkAt.lt h.left
  obtain ⟨_, _, _, _, hr⟩ := h.right
  exact ⟨h.grew (alloc_below W _), BlkAt.alloc_new W (opCells o) OpT, by omega, fun e => by have := hr.lt _ e; omega⟩
end
theorem op_box {w : World} {B : Nat} {o : OpS} (h : BlkAt B OpT (opCells o) w) : w.cell? ⟨B, 1, none⟩ = some (.int .i64 o.f) ∧ w.cell? ⟨B, 2, none⟩ = some (.int .i64 o.v.b.l) ∧ w.cell? ⟨B, 3, none⟩ = some (.int .i64 o.v.b.e) ∧ w.cell? ⟨B, 4, none⟩ = some (.int .i64 o.v.b.c) ∧ w.cell? ⟨B, 5, none⟩ = some (.int .i64 o.v.b.p) ∧ w.cell? ⟨B, 6, none⟩ = some (.int .i64 o.v.round) ∧ w.cell? ⟨B, 7, none⟩ = some (.int .i64 o.v.state) :=
  ⟨h.cell rfl, h.cell rfl, h.cell rfl, h.cell rfl, h.cell rfl, h.cell rfl, h.cell rfl⟩
theorem RDone.parts {F : Nat → Prop} {g : Nat} {r : Rp} {v : Value} {w : World} {e : Ending} {w' : World} (h : RDone F g r v w e w') : e = .returned v ∧ RpIn (Foot F w w') g r w' ∧ Apart F w w' := h
set_option maxRecDepth 100000 in
set_option maxHeartbeats 3200000 in
theorem plays_any (x : WhoS) (L : List OpS) (a : Option Addr) (cap : Nat) (w : World) (hL : OpsAt w (.slice a L.length cap) L) (hn : L.length ≤ maxLen) :
    Calls Try.prog 7 #[whoV x, .slice a L.length cap] w fun e w' => e = .returned (.bool true) ∧ Below w.heap.size w w' := by
  unfold maxLen at hn
  have HO := Lib.hid (fun w2 (h : Below w.heap.size w w2) => hL.grew h)
  have hb1 := Lib.hid (alloc_below w)
  have hwb : Hid (∀ o, BlkAt w.heap.size o [.int .i64 x.me, .int .i64 x.nodes, .int .i64 x.z.1, .int .i64 x.z.2, .int .i64 x.ep] (w.alloc (.cells #[.int .i64 x.me, .int .i64 x.nodes, .int .i64 x.z.1, .int .i64 x.z.2, .int .i64 x.ep] o))) := Lib.hid (fun o => BlkAt.alloc_new w _ o)
  have HZ := Lib.hid (fun W => z_any x.z W)
  clear hL
  unfold whoV
  by_cases hbad : badNew x.me x.nodes x.z x.ep
  · as_aux_lemma =>
    have HNB := Lib.hid (fun W => new_bad x.me x.nodes x.z x.ep hbad W)
    have HRB := Lib.hid (fun W => rnew_bad x.me x.nodes x.z x.ep hbad W)
    clear hbad
    go_enter Try.func7, Try.ntmps7
    go_wp2_with (fail)
    refine (HNB.out _).mono ?_
    rintro e w1 ⟨rfl, hB1⟩
    have hw1 := (hwb.out _).grew hB1
    have B1 := Lib.hid ((hb1.out _).trans (hB1.mono (by simp)))
    have c0 := hw1.cell (i := 0) rfl
    have c1 := hw1.cell (i := 1) rfl
    have c2 := hw1.cell (i := 2) rfl
    have c3 := hw1.cell (i := 3) rfl
    have c4 := hw1.cell (i := 4) rfl
    clear hB1 hw1
    go_wp2_with (fail)
    have hex := Grew.all w1
    refine wp_region_grew (by kernel_rfl) (by kernel_rfl) ?_
    repeat (first | go_big_quiet_skip | (go_big_quiet_want; first | (refine quiet_load_cell 3 _ rfl ⟨w.heap.size, 0, none⟩ rfl _ _ Try.underlying3 rfl (fun W hW => Grew.cell hW c0) ?_; simp only [Act.put, List.setIfInBounds_toArray, List.set_cons_succ, List.set_cons_zero]; go_big_quiet_on) | (refine quiet_load_cell 3 _ rfl ⟨w.heap.size, 1, none⟩ rfl _ _ Try.underlying3 rfl (fun W hW => Grew.cell hW c1) ?_; simp only [Act.put, List.setIfInBounds_toArray, List.set_cons_succ, List.set_cons_zero]; go_big_quiet_on) | (refine quiet_load_mid 24 _ rfl w.heap.size 2 rfl [.int .i64 x.z.1, .int .i64 x.z.2] _ (fun W hW => range2 (Grew.cell hW c2) (Grew.cell hW c3)) Try.underlying24 rfl (by kernel_rfl) ?_; simp only [Act.put, List.setIfInBounds_toArray, List.set_cons_succ, List.set_cons_zero]; go_big_quiet_on) | (refine quiet_load_cell 3 _ rfl ⟨w.heap.size, 4, none⟩ rfl _ _ Try.underlying3 rfl (fun W hW => Grew.cell hW c4) ?_; simp only [Act.put, List.setIfInBounds_toArray, List.set_cons_succ, List.set_cons_zero]; go_big_quiet_on) | (go_big_quiet_op; first | go_big_quiet_on | (apply Exists.intro; refine ⟨fun W hW => ?_, ?_⟩; (first | exact rfl | (go_at_call 19; with_reducible exact Calls.grew hW (HZ.out _)) | (go_at_call 31; with_reducible exact Calls.grew hW (HRB.out _))); go_big_quiet_on))))
    refine wpQuiet_nil ?_
    intro w2 hw2
    have B2 := Lib.hid (B1.out.trans (Below.mono (show Below w1.heap.size w1 w2 from hw2) B1.out.size))
    clear hex hw2 c0 c1 c2 c3 c4
    go_wp2_with (fail)
    refine (vawake_any _).mono ?_
    rintro e w9 ⟨rfl, hb9⟩
    go_wp2
    go_ret
    exact ⟨rfl, B2.out.trans (hb9.mono B2.out.size)⟩
  · obtain ⟨m, k, hm, hk, h1, h7, hmk, hep, hz1, hz2⟩ := who_good x hbad
    have HNG := Lib.hid (fun W => new_any m k x.z x.ep h1 h7 hmk hep hz1 hz2 W)
    have HRG := Lib.hid (fun W => rnew_any m k x.z x.ep h1 h7 hmk hep hz1 hz2 W)
    have Hfit0 := Lib.hid (new_fit m k ⟨m, x.z.1, x.z.2, x.ep⟩ h1 h7 hmk)
    have Hfitr := Lib.hid (freshR_fit _ (rawR_fit m k ⟨m, x.z.1, x.z.2, x.ep⟩ h1 h7 hmk) 0)
    have Hsim0 := Lib.hid (Sim.new m k ⟨m, x.z.1, x.z.2, x.ep⟩ h1 h7 hmk)
    have HfD0 := Lib.hid (new_fitD m k ⟨m, x.z.1, x.z.2, x.ep⟩)
    rw [hm, hk] at hwb ⊢
    unfold ptrV at HNG
    unfold RNew ptrV at HRG
    clear hbad hm hk h1 h7 hmk hep hz1 hz2
    go_enter Try.func7, Try.ntmps7
    go_wp2_with (fail)
    refine (HNG.out _).mono ?_
    rintro e w1 ⟨g, rfl, hg, hP1, hB1⟩
    have hw1 := (hwb.out _).grew hB1
    have hgw : w.heap.size ≤ g := by simp at hg; omega
    have B1 := Lib.hid ((hb1.out _).trans (hB1.mono (by simp)))
    have HP1 := Lib.hid hP1
    have c0 := hw1.cell (i := 0) rfl
    have c1 := hw1.cell (i := 1) rfl
    have c2 := hw1.cell (i := 2) rfl
    have c3 := hw1.cell (i := 3) rfl
    have c4 := hw1.cell (i := 4) rfl
    clear hB1 hP1 hg hw1
    go_wp2_with (fail)
    have hB : Below w1.heap.size w1 w1.drew := (Below.refl _ w1).drew
    go_region_held3 (fun w' => w'.cell? ⟨w.heap.size, 0, none⟩ = some (.int .i64 (m : Int)) ∧ w'.cell? ⟨w.heap.size, 1, none⟩ = some (.int .i64 (k : Int)) ∧ w'.cell? ⟨w.heap.size, 2, none⟩ = some (.int .i64 x.z.1) ∧ w'.cell? ⟨w.heap.size, 3, none⟩ = some (.int .i64 x.z.2) ∧ w'.cell? ⟨w.heap.size, 4, none⟩ = some (.int .i64 x.ep))
      (exact ⟨Grew.cell hB c0, Grew.cell hB c1, Grew.cell hB c2, Grew.cell hB c3, Grew.cell hB c4⟩)
      (first | (go_at_call 19; (with_reducible refine (HZ.out _).mono ?_); rintro e wZ ⟨rfl, bZ⟩; have hB := hB.trans (bZ.mono hB.size)) | (go_at_call 31; (with_reducible refine (HRG.out _).mono ?_); rintro e wN ⟨gr, F, rfl, hR, hFN, bN⟩; have hFw := hB; have hB := hB.trans (bN.mono hB.size)))
    have hs1 := BlkAt.lt HP1.out
    have hw11 := B1.out.size
    have hsF := hFw.size
    have HD0 : Hid (Duo w g (newP m k ⟨m, x.z.1, x.z.2, x.ep⟩) F gr (newR m k ⟨m, x.z.1, x.z.2, x.ep⟩) _) := Lib.hid ⟨BlkAt.grew HP1.out hB, hR, fun e => by have := hFN g e; omega, B1.out.trans (hB.mono B1.out.size), hgw, fun i hi => by have := hFN i hi; omega⟩
    clear hB hR hFN hFw bN bZ HP1 B1 c0 c1 c2 c3 c4 hs1 hw11 hsF
    go_wp2_with (fail)
    go_loopw [9] (fun vi wr => ∃ (i : Nat) (F : Nat → Prop) (p : Poll) (r : Rp), vi = .int .i64 (i : Int) ∧ i ≤ L.length ∧ i ≤ 100 ∧ p.fit ∧ r.fit ∧ fitD p ∧ Sim p r ∧ 0 ≤ p.round ∧ p.round ≤ 1099511627776 + i ∧ Duo w g p F gr r wr) (fun vi _ => L.length - (intOf vi).toNat)
    case atStart => exact ⟨0, _, _, _, rfl, by omega, by omega, Hfit0.out, Hfitr.out, HfD0.out, Hsim0.out, by simp [newP, freshP], by simp [newP, freshP], HD0.out⟩
    case round =>
      obtain ⟨i, F, p, r, rfl, hi, hi100, hpf, hrf, hfD, hsi, hr0, hr1, hD⟩ := hrel
      have HPf := Lib.hid hpf
      have HRf := Lib.hid hrf
      have HDf := Lib.hid hfD
      have HSi := Lib.hid hsi
      have HD := Lib.hid hD
      clear hpf hrf hfD hsi hD HD0
      by_cases h : i < L.length ∧ i < 100
      · obtain ⟨h, h100⟩ := h
        have d0 : decide (i < L.length) = true := decide_eq_true h
        have d1 : decide ((i : Int) < 100) = true := decide_eq_true (by omega)
        obtain ⟨bb, off, rfl, hrg⟩ := ops_get (HO.out wr HD.out.bel) i h
        generalize L[i] = o at *
        obtain ⟨c0, c1, c2, c3, c4, c5, c6, c7⟩ := op_at hrg
        have HDo := Lib.hid (Trio.of_alloc HD.out o)
        clear hrg
        by_cases hv : o.v.round ≤ 1099511627776
        · have hv2 : o.v.round ≤ 1099511627776 := hv
          clear hv
          cases hob : o.b with
          | true =>
            as_aux_lemma =>
            rw [hob] at c0
            unfold opCells votCells at HDo
            rw [hob] at HDo
            have HBg := Lib.hid (fun W hW => begin_any g p HPf.out hr0 (by omega) W hW)
            have HRg : Hid (∀ G W, RpIn G gr r W → Calls Try.prog 33 #[ptrV gr] W (RDone G gr (beginR r) (.tuple #[]) W)) := Lib.hid (fun G W h => rbegin_any h HRf.out (by rw [HSi.out.round]; omega))
            unfold ptrV at HBg HRg
            obtain ⟨p2, hp2⟩ : ∃ p2, p2 = beginP p := ⟨_, rfl⟩
            obtain ⟨r2, hr2⟩ : ∃ r2, r2 = beginR r := ⟨_, rfl⟩
            have hq0 : 0 ≤ p2.round := by rw [hp2]; show 0 ≤ p.round + 1; omega
            have hq1 : p2.round ≤ 1099511627776 + ((i + 1 : Nat) : Int) := by rw [hp2]; show p.round + 1 ≤ _; omega
            have HPf2 := Lib.hid (begin_fit p HPf.out)
            have HRf2 := Lib.hid (beginR_fit r HRf.out)
            have HDf2 := Lib.hid (begin_fitD p)
            have HSi2 := Lib.hid (HSi.out.begin HPf.out HRf.out)
            rw [← hp2] at HBg HPf2 HDf2 HSi2
            rw [← hr2] at HRg HRf2 HSi2
            clear hp2 hr2
            have HWn := Lib.hid (fun W h => wong_any g p2 HPf2.out HDf2.out W h)
            have HRw : Hid (∀ G W, RpIn G gr r2 W → Calls Try.prog 36 #[ptrV gr] W fun e w' => e = .returned (.tuple #[.int .i64 (wonG p2).1, .bool (wonG p2).2]) ∧ Below W.heap.size W w') := Lib.hid (fun G W h => by have k := rwon_any h HRf2.out; rw [HSi2.out.won HPf2.out] at k; exact k)
            have HVo := Lib.hid (fun W h => voteM_any g p2 W h)
            have HPl := Lib.hid (fun W => plainV_any (voteOf p2) W)
            have HRv : Hid (∀ G W, RpIn G gr r2 W → Calls Try.prog 38 #[ptrV gr] W fun e w' => e = .returned (msgV (voteOf p2)) ∧ Below W.heap.size W w') := Lib.hid (fun G W h => by have k := rvoteM_any h; rw [HSi2.out.vote] at k; exact k)
            have HSm := Lib.hid (fun W => sameV_any (voteOf p2) W)
            unfold ptrV at HWn HRw HVo HRv
            generalize (wonG p2).1 = won1 at HWn HRw
            generalize (wonG p2).2 = won2 at HWn HRw
            generalize hvv : voteOf p2 = vv at HVo HPl HRv HSm
            clear hvv
            obtain ⟨⟨vl, ve, vc, vp⟩, vr, vs⟩ := vv
            unfold votV at HVo HPl
            unfold msgV at HPl HRv HSm
            simp only at HVo HPl HRv HSm
            go_wp2_with (fail)
            refine (HBg.out _ HDo.out.left).mono ?_
            rintro e w3 ⟨rfl, hP3, hG3⟩
            have HD3 := Lib.hid (HDo.out.toDuo.take hP3 hG3)
            clear hP3 hG3
            go_wp2_with (fail)
            refine (HRg.out _ _ HD3.out.right).mono ?_
            rintro e w4 ⟨rfl, hR4, hA4⟩
            have hD := HD3.out.rtake hR4 hA4
            clear hR4 hA4 HD3 c0 c1 c2 c3 c4 c5 c6 c7
            have hD5 := hD
            clear hD
            have HD5 := Lib.hid hD5
            clear hD5
            go_wp2_with (fail)
            refine (HWn.out _ HD5.out.left).mono ?_
            rintro e w5 ⟨rfl, b5⟩
            have HD6 := Lib.hid (HD5.out.grew b5)
            clear b5 HD5
            go_wp2_with (fail)
            refine (HRw.out _ _ HD6.out.right).mono ?_
            rintro e w6 ⟨rfl, b6⟩
            have HD7 := Lib.hid (HD6.out.grew b6)
            clear b6 HD6
            go_wp2_with (fail)
            refine (HVo.out _ HD7.out.left).mono ?_
            rintro e w7 ⟨rfl, b7⟩
            have HD8 := Lib.hid (HD7.out.grew b7)
            clear b7 HD7
            go_wp2_with (fail)
            refine (HPl.out _).mono ?_
            rintro e w8 ⟨rfl, b8⟩
            have HD9 := Lib.hid (HD8.out.grew b8)
            clear b8 HD8
            go_wp2_with (fail)
            refine (HRv.out _ _ HD9.out.right).mono ?_
            rintro e w9 ⟨rfl, b9⟩
            have HD10 := Lib.hid (HD9.out.grew b9)
            clear b9 HD9
            go_wp2_with (fail)
            refine (HSm.out _).mono ?_
            rintro e w10 ⟨rfl, b10⟩
            have HD11 := Lib.hid (HD10.out.grew b10)
            clear b10 HD10
            go_wp2
            go_roundw
            case rel => exact ⟨i + 1, _, p2, r2, by go_num, by omega, by omega, HPf2.out, HRf2.out, HDf2.out, HSi2.out, hq0, hq1, HD11.out⟩
            case measure => simp [intOf]; omega
          | false =>
            rw [hob] at c0
            unfold opCells votCells at HDo
            rw [hob] at HDo
            have HTk := Lib.hid (fun W hW => take_any g p HPf.out o.f o.v W hW)
            have HRk : Hid (∀ G W, RpIn G gr r W → Calls Try.prog 34 #[ptrV gr, .int .i64 o.f, msgV o.v] W (RDone G gr (stepR r o.f o.v).1 (.int .i64 (stepR r o.f o.v).2) W)) := Lib.hid (fun G W h => rtake_any h HRf.out o.f o.v)
            have HPo := Lib.hid (fun W => plainV_any o.v W)
            unfold ptrV votV at HTk
            unfold ptrV msgV at HRk
            unfold votV msgV at HPo
            obtain ⟨p2, hp2⟩ : ∃ p2, p2 = (stepP p o.f o.v).1 := ⟨_, rfl⟩
            obtain ⟨r2, hr2⟩ : ∃ r2, r2 = (stepR r o.f o.v).1 := ⟨_, rfl⟩
            obtain ⟨z2, hz2⟩ : ∃ z2, z2 = (stepP p o.f o.v).2 := ⟨_, rfl⟩
            obtain ⟨l1, l2, l3, l4⟩ := step_law p o.f o.v
            have HPf2 := Lib.hid (step_fit p o.f o.v HPf.out)
            have HRf2 := Lib.hid (stepR_fit HRf.out o.f o.v)
            have HDf2 := Lib.hid (step_fitD HPf.out HDf.out o.f o.v)
            have hst := HSi.out.step HPf.out HRf.out o.f o.v
            have HSi2 := Lib.hid hst.1
            rw [← hst.2] at HRk
            rw [← hp2] at HTk HPf2 HDf2 HSi2 l1 l4
            rw [← hz2] at HTk HRk
            rw [← hr2] at HRk HRf2 HSi2
            have hq0 : 0 ≤ p2.round := by omega
            have hq1 : p2.round ≤ 1099511627776 + ((i + 1 : Nat) : Int) := by rcases l4 with h | h <;> omega
            clear l1 l2 l3 l4 hp2 hr2 hz2 hst
            have HWn := Lib.hid (fun W h => wong_any g p2 HPf2.out HDf2.out W h)
            have HRw : Hid (∀ G W, RpIn G gr r2 W → Calls Try.prog 36 #[ptrV gr] W fun e w' => e = .returned (.tuple #[.int .i64 (wonG p2).1, .bool (wonG p2).2]) ∧ Below W.heap.size W w') := Lib.hid (fun G W h => by have k := rwon_any h HRf2.out; rw [HSi2.out.won HPf2.out] at k; exact k)
            have HVo := Lib.hid (fun W h => voteM_any g p2 W h)
            have HPl := Lib.hid (fun W => plainV_any (voteOf p2) W)
            have HRv : Hid (∀ G W, RpIn G gr r2 W → Calls Try.prog 38 #[ptrV gr] W fun e w' => e = .returned (msgV (voteOf p2)) ∧ Below W.heap.size W w') := Lib.hid (fun G W h => by have k := rvoteM_any h; rw [HSi2.out.vote] at k; exact k)
            have HSm := Lib.hid (fun W => sameV_any (voteOf p2) W)
            unfold ptrV at HWn HRw HVo HRv
            generalize (wonG p2).1 = won1 at HWn HRw
            generalize (wonG p2).2 = won2 at HWn HRw
            generalize hvv : voteOf p2 = vv at HVo HPl HRv HSm
            clear hvv
            obtain ⟨⟨vl, ve, vc, vp⟩, vr, vs⟩ := vv
            unfold votV at HVo HPl
            unfold msgV at HPl HRv HSm
            simp only at HVo HPl HRv HSm
            go_wp2_with (fail)
            have hD := HDo.out.drew
            clear c0 c1 c2 c3 c4 c5 c6 c7 HDo
            have hne : (z2 != z2) = false := by simp
            go_region_held3 (fun w' => w'.cell? ⟨wr.heap.size, 1, none⟩ = some (.int .i64 o.f) ∧ w'.cell? ⟨wr.heap.size, 2, none⟩ = some (.int .i64 o.v.b.l) ∧ w'.cell? ⟨wr.heap.size, 3, none⟩ = some (.int .i64 o.v.b.e) ∧ w'.cell? ⟨wr.heap.size, 4, none⟩ = some (.int .i64 o.v.b.c) ∧ w'.cell? ⟨wr.heap.size, 5, none⟩ = some (.int .i64 o.v.b.p) ∧ w'.cell? ⟨wr.heap.size, 6, none⟩ = some (.int .i64 o.v.round) ∧ w'.cell? ⟨wr.heap.size, 7, none⟩ = some (.int .i64 o.v.state))
              (exact op_box hD.box)
              (first | (go_at_call 28; (with_reducible refine (HTk.out _ hD.left).mono ?_); rintro e wT ⟨rfl, hPT, hGT⟩; have hD := hD.take hPT hGT) | (go_at_call 35; (with_reducible refine (HPo.out _).mono ?_); rintro e wL ⟨rfl, bL⟩; have hD := hD.grew bL) | (go_at_call 34; (with_reducible refine (HRk.out _ _ hD.right).mono ?_); rintro e wK ⟨rfl, hRK, hAK⟩; have hD := hD.rtake hRK hAK))
            all_goals
              replace hD := hD.toDuo
              have hD5 := hD
              clear hD
              have HD5 := Lib.hid hD5
              clear hD5
              go_wp2_with (fail)
              refine (HWn.out _ HD5.out.left).mono ?_
              rintro e w5 ⟨rfl, b5⟩
              have HD6 := Lib.hid (HD5.out.grew b5)
              clear b5 HD5
              go_wp2_with (fail)
              refine (HRw.out _ _ HD6.out.right).mono ?_
              rintro e w6 ⟨rfl, b6⟩
              have HD7 := Lib.hid (HD6.out.grew b6)
              clear b6 HD6
              go_wp2_with (fail)
              refine (HVo.out _ HD7.out.left).mono ?_
              rintro e w7 ⟨rfl, b7⟩
              have HD8 := Lib.hid (HD7.out.grew b7)
              clear b7 HD7
              go_wp2_with (fail)
              refine (HPl.out _).mono ?_
              rintro e w8 ⟨rfl, b8⟩
              have HD9 := Lib.hid (HD8.out.grew b8)
              clear b8 HD8
              go_wp2_with (fail)
              refine (HRv.out _ _ HD9.out.right).mono ?_
              rintro e w9 ⟨rfl, b9⟩
              have HD10 := Lib.hid (HD9.out.grew b9)
              clear b9 HD9
              go_wp2_with (fail)
              refine (HSm.out _).mono ?_
              rintro e w10 ⟨rfl, b10⟩
              have HD11 := Lib.hid (HD10.out.grew b10)
              clear b10 HD10
              go_wp2
              go_roundw
              case rel => exact ⟨i + 1, _, p2, r2, by go_num, by omega, by omega, HPf2.out, HRf2.out, HDf2.out, HSi2.out, hq0, hq1, HD11.out⟩
              case measure => simp [intOf]; omega
        · as_aux_lemma =>
          have hv2 : 1099511627776 < o.v.round := by omega
          clear hv
          go_wp2_with (fail)
          refine (vawake_any _).mono ?_
          rintro e w9 ⟨rfl, hb9⟩
          go_wp2
          go_ret
          exact ⟨rfl, HDo.out.bel.trans (hb9.mono HDo.out.bel.size)⟩
      · as_aux_lemma =>
        have hd : Hid (i = L.length ∨ i = 100) := by show _ ∨ _; omega
        by_cases h2 : i < L.length
        · have d0 : decide (i < L.length) = true := decide_eq_true h2
          have d1 : decide ((i : Int) < 100) = false := decide_eq_false (by omega)
          clear h
          go_wp2_with (fail)
          refine (vawake_any _).mono ?_
          rintro e w9 ⟨rfl, hb9⟩
          go_wp2
          go_ret
          exact ⟨rfl, HD.out.bel.trans (hb9.mono HD.out.bel.size)⟩
        · have d0 : decide (i < L.length) = false := decide_eq_false h2
          clear h
          go_wp2_with (fail)
          refine (vawake_any _).mono ?_
          rintro e w9 ⟨rfl, hb9⟩
          go_wp2
          go_ret
          exact ⟨rfl, HD.out.bel.trans (hb9.mono HD.out.bel.size)⟩
/-- THE LAW. -/
theorem votePlays_walk (W : World) (v0 v1 : Value) (h0 : IsWho v0) (h1 : IsOps W v1) :
    Calls Try.prog 7 #[v0, v1] W fun e w' => e = .returned (.bool true) ∧ Below W.heap.size W w' := by
  obtain ⟨x, rfl⟩ := h0
  obtain ⟨L, a, cap, rfl, h1', h2', h3⟩ := h1
  exact plays_any x L a cap W h3 (Nat.le_trans h1' h2')
end Go.Proofs.Ytaahbfcnccmcoaa
