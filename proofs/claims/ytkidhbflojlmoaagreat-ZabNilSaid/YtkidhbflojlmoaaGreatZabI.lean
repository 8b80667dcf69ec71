/- The walk of won, of a node that is alone. Conditions: as each theorem says. -/
import Derived.Test.YtkidhbflojlmoaaGreatZabH
import Derived.BigRegion
namespace Go.Proofs.YtkidhbflojlmoaaGreat
open Go.RowKit

def rest0 : List Peer := List.replicate 6 peer0
def ownP : Peer := { peer0 with hello := true, heard := true }
def leadN (n : Nd) : Nd := { n with leader := 0, step := 0, idle := 0, is := 3, best := n.acc }
def wonN (n : Nd) (L : List Ent) : Nd := onNd (leadN n) L ownP rest0
theorem NodeAt.leads {g : Nat} {n : Nd} {w : World} (h : NodeAt g n w) :
    NodeAt g { n with leader := 0, step := 0, idle := 0 } (((w.setCell ⟨g, 9, none⟩ (.int .i64 0)).setCell ⟨g, 10, none⟩ (.int .i64 0)).setCell ⟨g, 11, none⟩ (.int .i64 0)) :=
  BlkAt.set (BlkAt.set (BlkAt.set h 9 (.int .i64 0)) 10 (.int .i64 0)) 11 (.int .i64 0)
theorem NodeAt.bests {g : Nat} {n : Nd} {w : World} (h : NodeAt g n w) :
    NodeAt g { n with is := 3, best := n.acc } ((w.setCell ⟨g, 8, none⟩ (.int .i64 3)).setCell ⟨g, 15, none⟩ (.int .i64 n.acc)) :=
  BlkAt.set (BlkAt.set h 8 (.int .i64 3)) 15 (.int .i64 n.acc)
theorem NodeAt.cleared {g : Nat} {n : Nd} {w : World} (h : NodeAt g n w) (hl : n.peers.length = 7) : NodeAt g { n with peers := peers0 } (w.setCells g 16 peers0C) := by
  have := BlkAt.sets peers0C h 16
  rwa [nd_clear n hl] at this
theorem NodeAt.helloed {g : Nat} {n : Nd} {p : Peer} {rest : List Peer} {w : World} (h : NodeAt g (n.own p rest) w) :
    NodeAt g (n.own { p with hello := true, heard := true } rest) ((w.setCell ⟨g, 16, none⟩ (.bool true)).setCell ⟨g, 17, none⟩ (.bool true)) :=
  BlkAt.set (BlkAt.set h 16 (.bool true)) 17 (.bool true)
theorem NodeAt.there63 {g : Nat} {n : Nd} {w : World} (h : NodeAt g n w) (hl : n.peers.length = 7) : w.there g 16 peers0C.toArray.size :=
  BlkAt.there h 16 _ (by rw [List.size_toArray, peers0C_length, ndCells_length n hl]; omega)
theorem peers0C_one : (peers0C.toArray).all (·.oneCell') = true := by decide +kernel
set_option maxRecDepth 100000 in
set_option maxHeartbeats 4000000 in
theorem won_one (g q : Nat) (n : Nd) (p : Poll) (hl : n.lone) (ha0 : 0 ≤ n.acc) (ha1 : n.acc ≤ 1099511627775) (hp : p.fit) (hno : noOne p) (hw : wonP p = (0, true)) (hpv : n.pv = ptrV q) (L : List Ent) (w : World) (h : NodeAt g n w) (hq : PollAt q p w) (hL : LogAt n L w) (hfl : ∀ b, n.lv.ownBlock = some b → b ≠ g) :
    Calls Tryz.prog 59 #[ptrV g] w fun e w' => e = .returned (.tuple #[]) ∧ NodeAt g (wonN n L) w' ∧ w.grownBy w' (some g) := by
  have hN : n.nodes = 1 := hl.nodes
  have hM : n.me = 0 := hl.me
  have c14 : w.cell? ⟨g, 14, none⟩ = some (.pointer (some ⟨q, 0, none⟩)) := by have := h.cell (i := 14) (v := n.pv) (by rfl); rw [hpv] at this; exact this
  have hlt : g < w.heap.size := BlkAt.lt h
  have H := Lib.hid h
  have HL := Lib.hid hL
  have HW := won_any q p hp hno w hq
  rw [hw] at HW
  unfold ptrV at HW ⊢
  have HW := Lib.hid HW
  clear h hL hq hno hw hp hpv
  go_enter Tryz.func59, Tryz.ntmps59
  go_upto_region 2 with (go_at_call 82; (with_reducible refine HW.out.mono ?_); rintro e w1 ⟨rfl, hb1⟩)
  have H1 := Lib.hid (show NodeAt g n w1 from BlkAt.grew H.out hb1)
  have HB1 := Lib.hid hb1
  have d9 := H1.out.cell (i := 9) (v := .int .i64 n.leader) (by rfl)
  have d10 := H1.out.cell (i := 10) (v := .int .i64 n.step) (by rfl)
  have d11 := H1.out.cell (i := 11) (v := .int .i64 n.idle) (by rfl)
  have df := H1.out.frozen
  clear hb1 c14
  go_upto_region 3 with (fail)
  have H2 := NodeAt.leads H1.out
  have hG2 : w.grownBy _ (some g) := (((grown_below HB1.out (some g)).trans (grown_set w1 g 9 (.int .i64 0))).trans (grown_set _ g 10 (.int .i64 0))).trans (grown_set _ g 11 (.int .i64 0))
  generalize ((w1.setCell ⟨g, 9, none⟩ (.int .i64 0)).setCell ⟨g, 10, none⟩ (.int .i64 0)).setCell ⟨g, 11, none⟩ (.int .i64 0) = w2 at *
  have H2 := Lib.hid H2
  have HG2 := Lib.hid hG2
  clear hG2 d9 d10 d11 df H1 HB1
  have d6 : w2.cell? ⟨g, 6, none⟩ = some (.int .i64 0) := H2.out.cell (by show some (Value.int .i64 (n.me : Int)) = _; rw [hM]; rfl)
  have d0 : w2.cell? ⟨g, 0, none⟩ = some (.int .i64 n.acc) := H2.out.cell (by rfl)
  have d8 : w2.cell? ⟨g, 8, none⟩ = some (.int .i64 n.is) := H2.out.cell (by rfl)
  have d15 : w2.cell? ⟨g, 15, none⟩ = some (.int .i64 n.best) := H2.out.cell (by rfl)
  have df := H2.out.frozen
  go_upto_region 7 with (fail)
  have H3 : NodeAt g (leadN n) _ := NodeAt.bests H2.out
  have hG3 : w.grownBy _ (some g) := (HG2.out.trans (grown_set w2 g 8 (.int .i64 3))).trans (grown_set _ g 15 (.int .i64 n.acc))
  generalize (w2.setCell ⟨g, 8, none⟩ (.int .i64 3)).setCell ⟨g, 15, none⟩ (.int .i64 n.acc) = w3 at *
  have H4 := Lib.hid (NodeAt.cleared H3 hl.peers)
  have HG4 := Lib.hid (hG3.trans (grown_sets g peers0C w3 16))
  have HTh := Lib.hid (NodeAt.there63 H3 hl.peers)
  clear hG3 d6 d0 d8 d15 df H2 HG2 H3
  go_upto_region 8 with (refine wpList_store_mid (by rfl) 79 (.tmp 53) (.tmp 51) (by rfl) g 16 peers0C.toArray (by rfl) (by rfl) HTh.out (by kernel_rfl) peers0C_one ?_)
  generalize w3.setCells g 16 peers0C.toArray.toList = w4 at *
  replace H4 : Hid (NodeAt g ((leadN n).own peer0 rest0) w4) := H4
  have d6 : w4.cell? ⟨g, 6, none⟩ = some (.int .i64 0) := H4.out.cell (by show some (Value.int .i64 (n.me : Int)) = _; rw [hM]; rfl)
  have d16 : w4.cell? ⟨g, 16, none⟩ = some (.bool false) := H4.out.cell (by rfl)
  have d17 : w4.cell? ⟨g, 17, none⟩ = some (.bool false) := H4.out.cell (by rfl)
  have df := H4.out.frozen
  clear H2
  go_region
  all_goals
    have H5 : NodeAt g ((leadN n).own ownP rest0) _ := BlkAt.drew (NodeAt.helloed H4.out)
    have hG5 : w.grownBy _ (some g) := ((HG4.out.trans (grown_set w4 g 16 (.bool true))).trans (grown_set _ g 17 (.bool true))).trans (grown_drew _ _)
    generalize ((w4.setCell ⟨g, 16, none⟩ (.bool true)).setCell ⟨g, 17, none⟩ (.bool true)).drew = w5 at *
    have HL5 : LogAt (leadN n) L w5 := LogOf.kept HL.out hG5 (fun b hb => by have := hfl b hb; simpa using this)
    have HO := on_one g (leadN n) ownP rest0 ⟨hN, hM, rfl⟩ rfl ha0 ha1 rfl L w5 H5 HL5 hfl
    unfold ptrV at HO
    have HO := Lib.hid HO
    have HG5 := Lib.hid hG5
    clear hG5 H5 HL5 H4 HG4 d6 d16 d17 df HTh HL
    go_wp2_with (go_at_call 83; (with_reducible refine HO.out.mono ?_); rintro e w6 ⟨rfl, H6, hg6⟩)
    go_end0
    exact ⟨rfl, H6, HG5.out.trans hg6⟩
end Go.Proofs.YtkidhbflojlmoaaGreat
