/- A message that came in: its cells, and how it is opened. Conditions: as each theorem says. -/
import Derived.Test.YtkidhbflojlmoaaGreatZabW
import Derived.Deep.Slices
import Derived.ChangeSame
namespace Go.Proofs.YtkidhbflojlmoaaGreat
open Go.RowKit

/-- What is known of a list of entries in memory. -/
def EntsIn (w : World) (a : Option Addr) (cap : Nat) (L : List Ent) : Prop := L.length ≤ cap ∧ cap ≤ maxLen ∧ EntsAt w (.slice a L.length cap) L ∧ ∀ x ∈ L, x.ok
theorem EntsIn.grew {w w' : World} {a : Option Addr} {cap : Nat} {L : List Ent} (h : EntsIn w a cap L) (hb : Below w.heap.size w w') : EntsIn w' a cap L := ⟨h.1, h.2.1, h.2.2.1.grew hb, h.2.2.2⟩
open Go.WideShapes Go.ChangeShapes in
theorem ents_trod {P : Program} {t e z : TypeId} {f0 f1 g0 g1 : Field} (ht : P.underlying t = some (.slice e)) (he : P.underlying e = some (.struct #[f0, f1])) (hz : P.underlying f0.type = some (.struct #[g0, g1]))
    (hg0 : P.underlying g0.type = some (.int .i64)) (hg1 : P.underlying g1.type = some (.int .i64)) (hf1 : P.underlying f1.type = some .string)
    (o0 : f0.offset = 0) (o1 : f1.offset = 2) (p0 : g0.offset = 0) (p1 : g1.offset = 1) (c3 : P.cellsOf e = 3) (c2 : P.cellsOf f0.type = 2) (c1 : P.cellsOf f1.type = 1) (d0 : P.cellsOf g0.type = 1) (d1 : P.cellsOf g1.type = 1)
    {H : Type} {enc : TypeId × Value → H} {w : World} {fuel : Nat} {c : Value} {x : DataW H × List MemPlace}
    (hf : DataW.trod enc P w 0 (fun _ => true) true fuel t [c] = some x) : ∃ (L : List Ent) (a : Option Addr) (cap : Nat), c = .slice a L.length cap ∧ EntsIn w a cap L := by
  rcases Go.Deep.open_slice ht hf with ⟨hcs, _⟩ | ⟨a, len, cap, m, n, D, Pl, hcs, _, hl, hm, hmm, _, hx⟩
  · simp at hcs
    subst hcs
    exact ⟨[], none, 0, rfl, by simp, by simp, ⟨none, 0, rfl, fun i hi => by simp at hi⟩, by simp⟩
  · simp at hcs
    subst hcs
    simp only [if_true] at hmm
    subst hmm
    obtain ⟨b, off, spot⟩ := a
    have each : ∀ i, i < len → ∃ x : Ent, x.ok ∧ (i = 0 → spot = none) ∧ EntCells w b (off + i * 3) x := by
      intro i hi
      obtain ⟨cs', h1, h2⟩ := hx i (by omega)
      rw [c3] at h1
      obtain ⟨_, hlen, hcell⟩ := World.cells?_some h1
      obtain ⟨y0, y1, k, _, _, hy0, hy1⟩ := trod_struct2 he h2
      rw [o0, c2] at hy0
      rw [o1, c1] at hy1
      obtain ⟨s, hs, _, hsl⟩ := DataW.trod_string hf1 hy1
      obtain ⟨z0, z1, k2, _, _, hz0, hz1⟩ := trod_struct2 hz hy0
      rw [p0, d0] at hz0
      rw [p1, d1] at hz1
      obtain ⟨n0, hn0, _, hw0⟩ := DataW.trod_int hg0 hz0
      obtain ⟨n1, hn1, _, hw1⟩ := DataW.trod_int hg1 hz1
      match cs', hlen with
      | [u0, u1, u2], _ =>
        simp at hs hn0 hn1
        subst hs hn0 hn1
        have e0 := hcell 0 (by omega)
        have e1 := hcell 1 (by omega)
        have e2 := hcell 2 (by omega)
        rw [Go.Deep.add_add] at e0 e1 e2
        have hsp : i = 0 → spot = none := by
          intro h0
          subst h0
          cases spot with
          | none => rfl
          | some x =>
            simp [World.cell?, Addr.add] at e0
            split at e0 <;> simp at e0
        have ha : ∀ j, (⟨b, off, spot⟩ : Addr).add (i * 3 + j) = ⟨b, off + i * 3 + j, none⟩ := by
          intro j
          by_cases hj : i * 3 + j = 0
          · have hi0 : i = 0 := by omega
            have hj0 : j = 0 := by omega
            rw [hsp hi0, hi0, hj0]; rfl
          · unfold Addr.add; rw [if_neg hj]; simp; omega
        rw [ha] at e0 e1 e2
        exact ⟨⟨n0, n1, s.data.toList⟩, ⟨hw0, hw1, hsl⟩, hsp, by simpa using e0, by simpa using e1, by rw [show bs s.data.toList = s from bs_of s]; simpa using e2⟩
    obtain ⟨q, hq⟩ := Go.Deep.choose_lt each
    have hL : ((List.range len).map q).length = len := by simp
    refine ⟨(List.range len).map q, some ⟨b, off, spot⟩, m, by rw [hL], by rw [hL]; exact hl, hm, ⟨some ⟨b, off, spot⟩, m, by rw [hL], fun i hi => ?_⟩, fun x hx => ?_⟩
    · rw [hL] at hi
      obtain ⟨_, _, hc⟩ := hq i hi
      have hs := (hq 0 (by omega)).2.1 rfl
      refine ⟨b, off, by rw [hs], ?_⟩
      simpa using hc
    · obtain ⟨i, hi, rfl⟩ := List.mem_map.1 hx
      exact (hq i (List.mem_range.1 hi)).1
/-- A message of the document's answer. -/
structure Msg where
  ty : Int
  ld : Int
  a : Int × Int
  ep : Int
  own : Int
  f : Int × Int
  rnd : Int
  st : Int
  kd : Int
  body : List UInt8
  ents : List Ent
  flag : Bool
  node : Int
  cli : Int
  seq : Int
def msgCells (m : Msg) (a : Option Addr) (cap : Nat) : List Value := [.int .i64 m.ty, .int .i64 m.ld, .int .i64 m.a.1, .int .i64 m.a.2, .int .i64 m.ep, .int .i64 m.own, .int .i64 m.f.1, .int .i64 m.f.2, .int .i64 m.rnd, .int .i64 m.st, .int .i64 m.kd, .string (bs m.body), .slice a m.ents.length cap, .bool m.flag, .int .i64 m.node, .int .i64 m.cli, .int .i64 m.seq]
def msgV (m : Msg) (a : Option Addr) (cap : Nat) : Value := .agg (msgCells m a cap).toArray
def okI (n : Int) : Prop := (Lit.int .i64 n).wf = true
/-- All numbers of a message are 64 bits wide, and its body is no longer than a text may be. -/
def Msg.ok (m : Msg) : Prop := okI m.ty ∧ okI m.ld ∧ okI m.a.1 ∧ okI m.a.2 ∧ okI m.ep ∧ okI m.own ∧ okI m.f.1 ∧ okI m.f.2 ∧ okI m.rnd ∧ okI m.st ∧ okI m.kd ∧ m.body.length ≤ maxLen ∧ okI m.node ∧ okI m.cli ∧ okI m.seq
def IsMsg (w : World) (v : Value) : Prop := ∃ (m : Msg) (a : Option Addr) (cap : Nat), v = msgV m a cap ∧ EntsIn w a cap m.ents ∧ m.ok
section
open Go.WideShapes Go.ChangeShapes
variable {H : Type} {enc : TypeId × Value → H} {w : World} {base : Nat} {spare : Nat → Bool} {held : Bool}
set_option maxRecDepth 100000 in
theorem cInt : Tryz.prog.cellsOf 3 = 1 := by kernel_rfl
set_option maxRecDepth 100000 in
theorem cBool : Tryz.prog.cellsOf 4 = 1 := by kernel_rfl
set_option maxRecDepth 100000 in
theorem cStr : Tryz.prog.cellsOf 9 = 1 := by kernel_rfl
set_option maxRecDepth 100000 in
theorem cRz : Tryz.prog.cellsOf 51 = 2 := by kernel_rfl
set_option maxRecDepth 100000 in
theorem cMsg : Tryz.prog.cellsOf 54 = 17 := by kernel_rfl
set_option maxRecDepth 100000 in
theorem cEnts : Tryz.prog.cellsOf 52 = 1 := by kernel_rfl
set_option maxRecDepth 100000 in
theorem rz_cells {fuel : Nat} {cs : List Value} {x : DataW H × List MemPlace} (h : DataW.trod enc Tryz.prog w base spare held fuel 51 cs = some x) : ∃ a b : Int, cs = [.int .i64 a, .int .i64 b] ∧ okI a ∧ okI b := by
  obtain ⟨xs, n, _, _, hl, hlen, hg⟩ := DataW.trod_struct Tryz.underlying51 h
  rw [cRz] at hl
  match cs, hl, xs, hlen with
  | [c0, c1], _, [y0, y1], _ =>
    obtain ⟨a, e0, _, wa⟩ := DataW.trod_int Tryz.underlying3 (by simpa using hg 0 _ rfl)
    obtain ⟨b, e1, _, wb⟩ := DataW.trod_int Tryz.underlying3 (by simpa using hg 1 _ rfl)
    rw [cInt] at e0 e1
    simp at e0 e1
    subst e0 e1
    exact ⟨a, b, rfl, wa, wb⟩
end
set_option maxRecDepth 100000 in
set_option maxHeartbeats 1600000 in
open Go.WideShapes Go.ChangeShapes in
theorem open_msg {H : Type} {enc : TypeId × Value → H} {w : World} {r : Reach} {base : Nat} {v : Value} {d : DataW H} {p : List MemPlace}
    (hv : Value.okWide Tryz.prog w r base 54 v) (h : DataW.Trod enc Tryz.prog w 0 (fun _ => true) true 54 v d p) : IsMsg w v := by
  obtain ⟨cs, rfl, hsz⟩ := okWide_struct Tryz.underlying54 hv
  obtain ⟨fuel, hf⟩ := h
  obtain ⟨xs, n, _, _, hl, hlen, hg⟩ := DataW.trod_struct Tryz.underlying54 hf
  rw [cMsg] at hl
  obtain ⟨l⟩ := cs
  match l, hl, xs, hlen with
  | [c0, c1, c2, c3, c4, c5, c6, c7, c8, c9, c10, c11, c12, c13, c14, c15, c16], _, [y0, y1, y2, y3, y4, y5, y6, y7, y8, y9, y10, y11, y12, y13, y14], _ =>
    obtain ⟨b0, e0, _, k0⟩ := DataW.trod_int Tryz.underlying3 (by simpa using hg 0 _ rfl)
    obtain ⟨b1, e1, _, k1⟩ := DataW.trod_int Tryz.underlying3 (by simpa using hg 1 _ rfl)
    obtain ⟨b2, b2', e2, k2, k2'⟩ := rz_cells (x := y2) (by simpa using hg 2 _ rfl)
    obtain ⟨b3, e3, _, k3⟩ := DataW.trod_int Tryz.underlying3 (by simpa using hg 3 _ rfl)
    obtain ⟨b4, e4, _, k4⟩ := DataW.trod_int Tryz.underlying3 (by simpa using hg 4 _ rfl)
    obtain ⟨b5, b5', e5, k5, k5'⟩ := rz_cells (x := y5) (by simpa using hg 5 _ rfl)
    obtain ⟨b6, e6, _, k6⟩ := DataW.trod_int Tryz.underlying3 (by simpa using hg 6 _ rfl)
    obtain ⟨b7, e7, _, k7⟩ := DataW.trod_int Tryz.underlying3 (by simpa using hg 7 _ rfl)
    obtain ⟨b8, e8, _, k8⟩ := DataW.trod_int Tryz.underlying3 (by simpa using hg 8 _ rfl)
    obtain ⟨b9, e9, _, k9⟩ := DataW.trod_string Tryz.underlying9 (by simpa using hg 9 _ rfl)
    have h10 := hg 10 _ rfl
    obtain ⟨b11, e11, _⟩ := DataW.trod_bool Tryz.underlying4 (by simpa using hg 11 _ rfl)
    obtain ⟨b12, e12, _, k12⟩ := DataW.trod_int Tryz.underlying3 (by simpa using hg 12 _ rfl)
    obtain ⟨b13, e13, _, k13⟩ := DataW.trod_int Tryz.underlying3 (by simpa using hg 13 _ rfl)
    obtain ⟨b14, e14, _, k14⟩ := DataW.trod_int Tryz.underlying3 (by simpa using hg 14 _ rfl)
    rw [cInt] at e0 e1 e3 e4 e6 e7 e8 e12 e13 e14
    rw [cRz] at e2 e5
    rw [cStr] at e9
    rw [cBool] at e11
    simp [Value.cells] at e0 e1 e2 e3 e4 e5 e6 e7 e8 e9 e11 e12 e13 e14 h10
    obtain ⟨L, a, cap, e10, hE⟩ := ents_trod (z := 51) Tryz.underlying52 Tryz.underlying84 Tryz.underlying51 Tryz.underlying3 Tryz.underlying3 Tryz.underlying9 rfl rfl rfl rfl (by kernel_rfl) (by kernel_rfl) (by kernel_rfl) (by kernel_rfl) (by kernel_rfl) h10
    obtain ⟨rfl, rfl⟩ := e2
    obtain ⟨rfl, rfl⟩ := e5
    subst e0 e1 e3 e4 e6 e7 e8 e9 e10 e11 e12 e13 e14
    refine ⟨⟨b0, b1, (b2, b2'), b3, b4, (b5, b5'), b6, b7, b8, b9.data.toList, L, b11, b12, b13, b14⟩, a, cap, ?_, hE, k0, k1, k2, k2', k3, k4, k5, k5', k6, k7, k8, k9, k12, k13, k14⟩
    unfold msgV msgCells
    rw [show bs b9.data.toList = b9 from bs_of b9]
end Go.Proofs.YtkidhbflojlmoaaGreat
