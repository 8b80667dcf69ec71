/- The walk of on, of a node that is alone. Conditions: as each theorem says. -/
import Derived.Test.YtkidhbflojlmoaaGreatZabG
namespace Go.Proofs.YtkidhbflojlmoaaGreat
open Go.RowKit

/-- A lone node with its own peer named. -/
def Nd.own (n : Nd) (p : Peer) (rest : List Peer) : Nd := { n with peers := p :: rest }
theorem half_one (n : Nd) (hl : n.lone) (P : Peer → Bool) (p0 : Peer) (rest : List Peer) (hp : n.peers = p0 :: rest) : decide (n.nodes / 2 < countP n.nodes fun i => P (n.peers.getD i peer0)) = P p0 := by
  rw [hl.nodes, hp, show (1 : Nat) = 0 + 1 from rfl, countP_succ, countP_zero]
  simp only [List.getD_cons_zero]
  cases P p0 <;> rfl
theorem above_one (e : Int) : aboveP 0 1 e = e + 1 := by
  unfold aboveP
  have h1 : ∀ x : Int, x.tmod ((1 : Nat) : Int) = 0 := fun x => by
    have := tmod_bound x 1 (Nat.le_refl _)
    omega
  rw [h1]
  omega
theorem NodeAt.agree {g : Nat} {n : Nd} {p : Peer} {rest : List Peer} {w : World} (h : NodeAt g (n.own p rest) w) (A : Int) :
    NodeAt g (({ n with acc := A, step := 1 } : Nd).own { p with agreed := true } rest) (((w.setCell ⟨g, 0, none⟩ (.int .i64 A)).setCell ⟨g, 10, none⟩ (.int .i64 1)).setCell ⟨g, 18, none⟩ (.bool true)) :=
  BlkAt.set (BlkAt.set (BlkAt.set h 0 (.int .i64 A)) 10 (.int .i64 1)) 18 (.bool true)
theorem NodeAt.readied {g : Nat} {n : Nd} {p : Peer} {rest : List Peer} {w : World} (h : NodeAt g (n.own p rest) w) :
    NodeAt g (({ n with cur := n.acc, step := 2 } : Nd).own { p with ready := true } rest) (((w.setCell ⟨g, 1, none⟩ (.int .i64 n.acc)).setCell ⟨g, 10, none⟩ (.int .i64 2)).setCell ⟨g, 20, none⟩ (.bool true)) :=
  BlkAt.set (BlkAt.set (BlkAt.set h 1 (.int .i64 n.acc)) 10 (.int .i64 2)) 20 (.bool true)
theorem NodeAt.commits {g : Nat} {n : Nd} {w : World} (h : NodeAt g n w) (z : Int × Int) :
    NodeAt g { n with step := 3, commit := z } (((w.setCell ⟨g, 10, none⟩ (.int .i64 3)).setCell ⟨g, 12, none⟩ (.int .i64 z.1)).setCell ⟨g, 13, none⟩ (.int .i64 z.2)) :=
  BlkAt.set (BlkAt.set (BlkAt.set h 10 (.int .i64 3)) 12 (.int .i64 z.1)) 13 (.int .i64 z.2)
def onNd (n : Nd) (L : List Ent) (p : Peer) (rest : List Peer) : Nd := ({ n with acc := n.best + 1, cur := n.best + 1, step := 3, commit := lastN n L } : Nd).own { p with agreed := true, ready := true } rest
set_option maxRecDepth 100000 in
set_option maxHeartbeats 4000000 in
theorem on_one (g : Nat) (n : Nd) (p : Peer) (rest : List Peer) (hl : (n.own p rest).lone) (h0 : n.step = 0) (hb0 : 0 ≤ n.best) (hb1 : n.best ≤ 1099511627775) (hh : p.hello = true) (L : List Ent) (w : World) (h : NodeAt g (n.own p rest) w) (hL : LogAt n L w) (hfl : ∀ b, n.lv.ownBlock = some b → b ≠ g) :
    Calls Tryz.prog 83 #[ptrV g] w fun e w' => e = .returned (.tuple #[]) ∧ NodeAt g (onNd n L p rest) w' ∧ w.grownBy w' (some g) := by
  have hf := hl.fit
  have hN : n.nodes = 1 := hl.nodes
  have hM : n.me = 0 := hl.me
  have c6 : w.cell? ⟨g, 6, none⟩ = some (.int .i64 0) := by have := h.cell (i := 6) (v := .int .i64 (n.me : Int)) (by rfl); rw [hM] at this; exact this
  have c7 : w.cell? ⟨g, 7, none⟩ = some (.int .i64 1) := by have := h.cell (i := 7) (v := .int .i64 (n.nodes : Int)) (by rfl); rw [hN] at this; exact this
  have c10 : w.cell? ⟨g, 10, none⟩ = some (.int .i64 0) := by have := h.cell (i := 10) (v := .int .i64 n.step) (by rfl); rw [h0] at this; exact this
  have c15 : w.cell? ⟨g, 15, none⟩ = some (.int .i64 n.best) := h.cell (by rfl)
  have hlt : g < w.heap.size := BlkAt.lt h
  have H := Lib.hid h
  have HL := Lib.hid hL
  have HH1 := Lib.hid (fun W (hB : Below w.heap.size w W) => by
    have := half_any g (n.own p rest) hf _ #[] _ W (BlkAt.grew h hB) (tests1 (BlkAt.grew h hB) hf)
    rw [half_one (n.own p rest) hl Peer.hello p rest rfl, hh] at this
    exact this)
  unfold ptrV at HH1 ⊢
  have eb : decide (n.best ≤ 1099511627775) = true := decide_eq_true hb1
  have ew1 : IntKind.i64.wrap 1099511627775 = 1099511627775 := by decide +kernel
  have ew : IntKind.i64.wrap (1099511627776 - 1) = 1099511627775 := by decide +kernel
  clear h hL
  go_enter Tryz.func83, Tryz.ntmps83
  go_wp2_with (fail)
  go_quiet (fail)
  have hD := drn_below w nq
  have HD := Lib.hid (first_drew hD)
  go_wp2_with (fail)
  go_region_with (go_at_call 56; (with_reducible refine (HH1.out _ (by first | exact drn_below w _ | exact HD.out)).mono ?_); rintro e w1 ⟨rfl, hb2⟩; have hB1 : Hid (Below w.heap.size w w1) := Lib.hid (by first | exact (drn_below w _).trans hb2 | exact HD.out.trans hb2); clear hb2)
  all_goals
    have H1 := Lib.hid (show NodeAt g (n.own p rest) w1 from BlkAt.grew H.out hB1.out)
    have d15 := Grew.cell hB1.out c15
    have d10 := Grew.cell hB1.out c10
    have d0 := H1.out.cell (i := 0) (v := .int .i64 n.acc) (by rfl)
    have d18 := H1.out.cell (i := 18) (v := .bool p.agreed) (by rfl)
    have df := H1.out.frozen
    have HAb := above_any g (n.own p rest) hf n.best hb0 (by omega) w1 H1.out
    rw [show (n.own p rest).me = 0 from hM, show (n.own p rest).nodes = 1 from hN, above_one] at HAb
    unfold ptrV at HAb
    have HAb := Lib.hid HAb
    clear c6 c7 c10 c15
    go_upto_region 3 with (go_at_call 98; (with_reducible refine HAb.out.mono ?_); rintro e w2 ⟨rfl, hb3⟩; have HB3 := Lib.hid hb3; have d10 := Grew.cell hb3 d10; have d0 := Grew.cell hb3 d0; have d18 := Grew.cell hb3 d18; have df := (BlkAt.grew H1.out hb3).frozen; clear hb3)
    have H3 := NodeAt.agree (show NodeAt g (n.own p rest) w2 from BlkAt.grew H1.out HB3.out) (n.best + 1)
    have hG3 : w.grownBy _ (some g) := (((grown_below (hB1.out.trans (HB3.out.mono hB1.out.size)) (some g)).trans (grown_set w2 g 0 (.int .i64 (n.best + 1)))).trans (grown_set _ g 10 (.int .i64 1))).trans (grown_set _ g 18 (.bool true))
    generalize ((w2.setCell ⟨g, 0, none⟩ (.int .i64 (n.best + 1))).setCell ⟨g, 10, none⟩ (.int .i64 1)).setCell ⟨g, 18, none⟩ (.bool true) = w3 at *
    obtain ⟨n3, hn3⟩ : ∃ n3, n3 = ({ n with acc := n.best + 1, step := 1 } : Nd).own { p with agreed := true } rest := ⟨_, rfl⟩
    rw [← hn3] at H3
    have hl3 : n3.lone := by rw [hn3]; exact ⟨hN, hM, hl.peers⟩
    have hL3 : LogAt n3 L w3 := by rw [hn3]; exact LogOf.kept HL.out hG3 (fun b hb => by have := hfl b hb; simpa using this)
    have HI3 := info_last g n3 L 2 (by decide) (by decide) (by decide) w3 H3 hL3
    unfold ptrV infV at HI3
    have HI3 := Lib.hid HI3
    have HT3 := Lib.hid (fun (f x : Value) W (hB : Below w3.heap.size w3 W) => those_one g n3 hl3 f x W (BlkAt.grew H3 hB))
    unfold ptrV at HT3
    have HN3 := Lib.hid hn3
    have HH3 := Lib.hid (And.intro H3 (And.intro hG3 (And.intro hl3 hL3)))
    clear H3 hG3 hn3 hl3 hL3 d10 d0 d18 df d15 HAb HB3
    go_upto_region 4 with (first
      | (go_at_call 39; (with_reducible refine HI3.out.mono ?_); rintro e w4 ⟨rfl, hb4⟩)
      | (go_at_call 30; (with_reducible refine (HT3.out _ _ _ (by assumption)).mono ?_); rintro e w5 ⟨rfl, hb5⟩))
    have HB5 := Lib.hid (hb4.trans (hb5.mono hb4.size))
    clear hb4 hb5 HI3 HT3
    have H5 := Lib.hid (show NodeAt g n3 w5 from BlkAt.grew HH3.out.1 HB5.out)
    have d10 : w5.cell? ⟨g, 10, none⟩ = some (.int .i64 1) := H5.out.cell (by rw [HN3.out]; rfl)
    have d0 : w5.cell? ⟨g, 0, none⟩ = some (.int .i64 (n.best + 1)) := H5.out.cell (by rw [HN3.out]; rfl)
    have d1 : w5.cell? ⟨g, 1, none⟩ = some (.int .i64 n.cur) := H5.out.cell (by rw [HN3.out]; rfl)
    have d20 : w5.cell? ⟨g, 20, none⟩ = some (.bool p.ready) := H5.out.cell (by rw [HN3.out]; rfl)
    have df := H5.out.frozen
    have HH4 := half_any g n3 HH3.out.2.2.1.fit _ #[] _ w5 H5.out (tests3 H5.out HH3.out.2.2.1.fit)
    rw [half_one n3 HH3.out.2.2.1 Peer.agreed { p with agreed := true } rest (by rw [HN3.out]; rfl)] at HH4
    unfold ptrV at HH4
    have HH4 : Hid (Calls Tryz.prog 56 #[.pointer (some ⟨g, 0, none⟩), .func (.func 100) #[] #[]] w5 fun e w' => e = .returned (.bool true) ∧ Below w5.heap.size w5 w') := Lib.hid HH4
    go_upto_region 6 with (go_at_call 56; (with_reducible refine HH4.out.mono ?_); rintro e w6 ⟨rfl, hb6⟩; have HB6 := Lib.hid hb6; have d10 := Grew.cell hb6 d10; have d0 := Grew.cell hb6 d0; have d1 := Grew.cell hb6 d1; have d20 := Grew.cell hb6 d20; have df := (BlkAt.grew H5.out hb6).frozen; clear hb6)
    have H6 := (show NodeAt g (({ n with acc := n.best + 1, step := 1 } : Nd).own { p with agreed := true } rest) w6 by rw [← HN3.out]; exact BlkAt.grew H5.out HB6.out).readied
    have hG6 : w.grownBy _ (some g) := ((((HH3.out.2.1.trans (grown_below (HB5.out.trans (HB6.out.mono HB5.out.size)) (some g))).trans (grown_set w6 g 1 (.int .i64 (n.best + 1)))).trans (grown_set _ g 10 (.int .i64 2))).trans (grown_set _ g 20 (.bool true)))
    generalize ((w6.setCell ⟨g, 1, none⟩ (.int .i64 (n.best + 1))).setCell ⟨g, 10, none⟩ (.int .i64 2)).setCell ⟨g, 20, none⟩ (.bool true) = w7 at *
    obtain ⟨n7, hn7⟩ : ∃ n7, n7 = ({ n with acc := n.best + 1, cur := n.best + 1, step := 2 } : Nd).own { p with agreed := true, ready := true } rest := ⟨_, rfl⟩
    have H7 : NodeAt g n7 w7 := by rw [hn7]; exact H6
    have hl7 : n7.lone := by rw [hn7]; exact ⟨hN, hM, hl.peers⟩
    have hL7 : LogAt n7 L w7 := by rw [hn7]; exact LogOf.kept HL.out hG6 (fun b hb => by have := hfl b hb; simpa using this)
    have HN7 := Lib.hid hn7
    have HH7 := Lib.hid (And.intro H7 (And.intro hG6 (And.intro hl7 hL7)))
    clear H6 H7 hG6 hn7 hl7 hL7 d10 d0 d1 d20 df HH4 HB6 HB5 H5 HN3 HH3
    have d2 : w7.cell? ⟨g, 6, none⟩ = some (.int .i64 0) := HH7.out.1.cell (by rw [HN7.out]; show some (Value.int .i64 (n.me : Int)) = _; rw [hM]; rfl)
    have d7 : w7.cell? ⟨g, 7, none⟩ = some (.int .i64 1) := HH7.out.1.cell (by rw [HN7.out]; show some (Value.int .i64 (n.nodes : Int)) = _; rw [hN]; rfl)
    have d10 : w7.cell? ⟨g, 10, none⟩ = some (.int .i64 2) := HH7.out.1.cell (by rw [HN7.out]; rfl)
    go_wp2
    go_loopg [82] 1 (fun gk v82 wr => v82 = .int .i64 ((1 : Int) - gk) ∧ gk ≤ 1 ∧ Hid (Below w7.heap.size w7 wr))
    case atStart => exact ⟨rfl, Nat.le_refl _, Lib.hid (Below.refl _ _)⟩
    case round =>
      obtain ⟨rfl, hgk, HB8⟩ := hrel
      have d2 := Grew.cell HB8.out d2
      have d7 := Grew.cell HB8.out d7
      have d10 := Grew.cell HB8.out d10
      rcases Nat.eq_zero_or_pos gk with hz | hpos
      · subst hz
        have H8 := Lib.hid (show NodeAt g n7 wr from BlkAt.grew HH7.out.1 HB8.out)
        have HH8 := half_any g n7 HH7.out.2.2.1.fit _ #[] _ wr H8.out (tests4 H8.out HH7.out.2.2.1.fit)
        rw [half_one n7 HH7.out.2.2.1 Peer.ready { p with agreed := true, ready := true } rest (by rw [HN7.out]; rfl)] at HH8
        unfold ptrV at HH8
        have HH8 : Hid (Calls Tryz.prog 56 #[.pointer (some ⟨g, 0, none⟩), .func (.func 101) #[] #[]] wr fun e w' => e = .returned (.bool true) ∧ Below wr.heap.size wr w') := Lib.hid HH8
        have HLa := Lib.hid (fun W (hB : Below w7.heap.size w7 W) => last_any g n7 L W (BlkAt.grew HH7.out.1 hB) (LogOf.grew HH7.out.2.2.2 hB))
        unfold ptrV zxidV at HLa
        have d12 : wr.cell? ⟨g, 12, none⟩ = some (.int .i64 n.commit.1) := H8.out.cell (by rw [HN7.out]; rfl)
        have d13 : wr.cell? ⟨g, 13, none⟩ = some (.int .i64 n.commit.2) := H8.out.cell (by rw [HN7.out]; rfl)
        have df := H8.out.frozen
        go_upto_region 14 with (first
          | (go_at_call 56; (with_reducible refine HH8.out.mono ?_); rintro e w9 ⟨rfl, hb9⟩; have d10 := Grew.cell hb9 d10; have d12 := Grew.cell hb9 d12; have d13 := Grew.cell hb9 d13; have df := (BlkAt.grew H8.out hb9).frozen)
          | (go_at_call 28; (with_reducible refine (HLa.out _ (HB8.out.trans (hb9.mono HB8.out.size))).mono ?_); rintro e wa ⟨rfl, hba⟩; have d10 := Grew.cell hba d10; have d12 := Grew.cell hba d12; have d13 := Grew.cell hba d13; have df := (BlkAt.grew (BlkAt.grew H8.out hb9) hba).frozen))
        have H9 := NodeAt.commits (show NodeAt g n7 wa from BlkAt.grew (BlkAt.grew H8.out hb9) hba) (lastN n7 L)
        have hG9 : w.grownBy _ (some g) := (((HH7.out.2.1.trans (grown_below (HB8.out.trans ((hb9.trans (hba.mono hb9.size)).mono HB8.out.size)) (some g))).trans (grown_set wa g 10 (.int .i64 3))).trans (grown_set _ g 12 (.int .i64 (lastN n7 L).1))).trans (grown_set _ g 13 (.int .i64 (lastN n7 L).2))
        generalize ((wa.setCell ⟨g, 10, none⟩ (.int .i64 3)).setCell ⟨g, 12, none⟩ (.int .i64 (lastN n7 L).1)).setCell ⟨g, 13, none⟩ (.int .i64 (lastN n7 L).2) = wb at *
        have e9 : ({ n7 with step := 3, commit := lastN n7 L } : Nd) = onNd n L p rest := by rw [HN7.out]; rfl
        rw [e9] at H9
        have hl9 : (onNd n L p rest).lone := ⟨hN, hM, hl.peers⟩
        have HI9 := info_commit g (onNd n L p rest) 5 (Or.inl rfl) wb H9
        unfold ptrV infV at HI9
        have HI9 := Lib.hid HI9
        have HT9 := Lib.hid (fun (f x : Value) W (hB : Below wb.heap.size wb W) => those_one g (onNd n L p rest) hl9 f x W (BlkAt.grew H9 hB))
        unfold ptrV at HT9
        have HH9 := Lib.hid (And.intro H9 hG9)
        clear H9 hG9 e9 hl9 d10 d12 d13 df hb9 hba HLa HH8 H8 HB8 HH7 HN7 d2 d7
        go_wp2_with (first
          | (go_at_call 39; (with_reducible refine HI9.out.mono ?_); rintro e wc ⟨rfl, hbc⟩)
          | (go_at_call 30; (with_reducible refine (HT9.out _ _ _ (by assumption)).mono ?_); rintro e wd ⟨rfl, hbd⟩))
        have HBd := Lib.hid (hbc.trans (hbd.mono hbc.size))
        go_end0
        exact ⟨rfl, BlkAt.grew HH9.out.1 HBd.out, HH9.out.2.trans (grown_below HBd.out (some g))⟩
      · obtain rfl : gk = 1 := by omega
        go_wp2
        go_roundg 0
        case rel => exact ⟨rfl, by omega, HB8⟩
        case measure => omega
end Go.Proofs.YtkidhbflojlmoaaGreat
