/- A node of zab and its cells. Conditions: as each theorem says. -/
import Derived.Test.YtkidhbflojlmoaaGreatVoteH
import Derived.Test.YtkidhbflojlmoaaGreatVoteG
namespace Go.Proofs.YtkidhbflojlmoaaGreat
open Go.RowKit

structure Peer where
  hello : Bool
  heard : Bool
  agreed : Bool
  synced : Bool
  ready : Bool
  last : Int × Int
  acked : Int × Int
def peerCells (p : Peer) : List Value := [.bool p.hello, .bool p.heard, .bool p.agreed, .bool p.synced, .bool p.ready, .int .i64 p.last.1, .int .i64 p.last.2, .int .i64 p.acked.1, .int .i64 p.acked.2]
def peer0 : Peer := ⟨false, false, false, false, false, (0, 0), (0, 0)⟩
def peers0 : List Peer := List.replicate 7 peer0
theorem peerCells_length (p : Peer) : (peerCells p).length = 9 := rfl
/-- A node: its fields, in order; three of them (the log, the poll, what is to be told) are the values themselves. -/
structure Nd where
  acc : Int
  cur : Int
  beg : Int × Int
  img : List UInt8
  lv : Value
  me : Nat
  nodes : Nat
  is : Int
  leader : Int
  step : Int
  idle : Int
  commit : Int × Int
  pv : Value
  best : Int
  peers : List Peer
  ov : Value
def ndHead (n : Nd) : List Value := [.int .i64 n.acc, .int .i64 n.cur, .int .i64 n.beg.1, .int .i64 n.beg.2, .string (bs n.img), n.lv, .int .i64 (n.me : Int), .int .i64 (n.nodes : Int), .int .i64 n.is, .int .i64 n.leader, .int .i64 n.step, .int .i64 n.idle, .int .i64 n.commit.1, .int .i64 n.commit.2, n.pv, .int .i64 n.best]
def ndCells (n : Nd) : List Value := ndHead n ++ (n.peers.flatMap peerCells ++ [n.ov])
structure Nd.fit (n : Nd) : Prop where
  n1 : 1 ≤ n.nodes
  n7 : n.nodes ≤ 7
  me : n.me < n.nodes
  peers : n.peers.length = 7
abbrev NodT : TypeId := 81
def NodeAt (g : Nat) (n : Nd) (w : World) : Prop := BlkAt g NodT (ndCells n) w
theorem ndCells_length (n : Nd) (h : n.peers.length = 7) : (ndCells n).length = 80 := by
  unfold ndCells
  rw [List.length_append, List.length_append, flat_length peerCells 9 peerCells_length, h]
  rfl
theorem nd_peer (n : Nd) (i j : Nat) (hi : i < n.peers.length) (hj : j < 9) : (ndCells n)[16 + i * 9 + j]? = (peerCells n.peers[i])[j]? := by
  unfold ndCells
  rw [List.getElem?_append_right (by show 16 ≤ _; omega), show 16 + i * 9 + j - (ndHead n).length = i * 9 + j by show 16 + i * 9 + j - 16 = _; omega]
  have hl : (n.peers.flatMap peerCells).length = n.peers.length * 9 := flat_length peerCells 9 peerCells_length _
  have : i * 9 + j < n.peers.length * 9 := by
    have := Nat.mul_le_mul_right 9 (Nat.succ_le_of_lt hi)
    omega
  rw [List.getElem?_append_left (by omega)]
  exact flat_get peerCells 9 peerCells_length n.peers i j hi hj
theorem nd_out (n : Nd) (h : n.peers.length = 7) : (ndCells n)[79]? = some n.ov := by
  unfold ndCells
  have hl : (n.peers.flatMap peerCells).length = 63 := by rw [flat_length peerCells 9 peerCells_length, h]
  rw [List.getElem?_append_right (by show 16 ≤ _; omega), show 79 - (ndHead n).length = 63 by rfl, List.getElem?_append_right (by omega), hl]
  rfl
theorem nd_setOut (n : Nd) (h : n.peers.length = 7) (v : Value) : (ndCells n).set 79 v = ndCells { n with ov := v } := by
  unfold ndCells
  have hl : (n.peers.flatMap peerCells).length = 63 := by rw [flat_length peerCells 9 peerCells_length, h]
  rw [List.set_append_right _ _ (by show 16 ≤ _; omega), show 79 - (ndHead n).length = 63 by rfl, List.set_append_right _ _ (by omega), hl]
  rfl
theorem flat_set {α : Type} (f : α → List Value) (k : Nat) (hf : ∀ x, (f x).length = k) (v : Value) (t : α) : ∀ (M : List α) (i j : Nat) (hi : i < M.length), j < k → (f M[i]).set j v = f t → (M.flatMap f).set (i * k + j) v = (M.set i t).flatMap f
  | [], i, j, hi, _, _ => by simp at hi
  | a :: M, 0, j, _, hj, e => by
    rw [List.flatMap_cons, Nat.zero_mul, Nat.zero_add, List.set_append_left _ _ (by rw [hf]; exact hj)]
    simp only [List.getElem_cons_zero] at e
    rw [e, List.set_cons_zero, List.flatMap_cons]
  | a :: M, i + 1, j, hi, hj, e => by
    rw [List.flatMap_cons, List.set_append_right _ _ (by rw [hf, Nat.add_mul]; omega), hf, show (i + 1) * k + j - k = i * k + j by rw [Nat.add_mul]; omega]
    rw [flat_set f k hf v t M i j (by simpa using hi) hj (by simpa using e), List.set_cons_succ, List.flatMap_cons]
theorem nd_setPeer (n : Nd) (i j : Nat) (hi : i < n.peers.length) (hj : j < 9) (v : Value) (p : Peer) (e : (peerCells n.peers[i]).set j v = peerCells p) : (ndCells n).set (16 + i * 9 + j) v = ndCells { n with peers := n.peers.set i p } := by
  unfold ndCells
  have hl : (n.peers.flatMap peerCells).length = n.peers.length * 9 := flat_length peerCells 9 peerCells_length _
  have : i * 9 + j < n.peers.length * 9 := by
    have := Nat.mul_le_mul_right 9 (Nat.succ_le_of_lt hi)
    omega
  rw [List.set_append_right _ _ (by show 16 ≤ _; omega), show 16 + i * 9 + j - (ndHead n).length = i * 9 + j by show 16 + i * 9 + j - 16 = _; omega, List.set_append_left _ _ (by omega), flat_set peerCells 9 peerCells_length v p n.peers i j hi hj e]
  rfl
def peers0C : List Value := peers0.flatMap peerCells
theorem peers0C_length : peers0C.length = 63 := by decide +kernel
theorem nd_clear (n : Nd) (h : n.peers.length = 7) : setMany (ndCells n) 16 peers0C = ndCells { n with peers := peers0 } := by
  unfold ndCells
  have hl : (n.peers.flatMap peerCells).length = 63 := by rw [flat_length peerCells 9 peerCells_length, h]
  rw [show (16 : Nat) = (ndHead n).length + 0 from rfl, setMany_right, setMany_left _ _ _ _ (by rw [peers0C_length, hl]; omega), setMany_full _ _ (by rw [peers0C_length, hl])]
  rfl
/-- A peer's cell in memory. -/
theorem NodeAt.peer {g : Nat} {n : Nd} {w : World} (h : NodeAt g n w) (i j : Nat) (hi : i < n.peers.length) (hj : j < 9) (v : Value) (e : (peerCells n.peers[i])[j]? = some v) : w.cell? ⟨g, 16 + i * 9 + j, none⟩ = some v :=
  BlkAt.cell h (by rw [nd_peer n i j hi hj, e])
def lastN (n : Nd) (L : List Ent) : Int × Int := if L = [] then n.beg else lastZ L
end Go.Proofs.YtkidhbflojlmoaaGreat
