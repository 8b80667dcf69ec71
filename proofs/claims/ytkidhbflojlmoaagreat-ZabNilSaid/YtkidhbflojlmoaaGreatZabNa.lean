/- The walk of few, of a message of zab's laws; the messages' values. Conditions: as each theorem says. -/
import Derived.Test.YtkidhbflojlmoaaGreatValS
import Derived.Deep.RegionLaw
namespace Go.Proofs.YtkidhbflojlmoaaGreat
open Go.RowKit

def ackV (f : Bool) (z : Int × Int) : Value := .agg #[.bool f, .int .i64 z.1, .int .i64 z.2]
def voteV (l : Int) (z : Int × Int) (p r s : Int) : Value := .agg #[.int .i64 l, .int .i64 z.1, .int .i64 z.2, .int .i64 p, .int .i64 r, .int .i64 s]
def infoV (k p o : Int) (z : Int × Int) : Value := .agg #[.int .i64 k, .int .i64 p, .int .i64 o, .int .i64 z.1, .int .i64 z.2]
def askV (n c q : Int) (f : Bool) (b : List UInt8) : Value := .agg #[.int .i64 n, .int .i64 c, .int .i64 q, .bool f, .string (bs b)]
theorem own_ents {w : World} {base n : Nat} {T : TypeId} {v : Value} {L : List Ent} (h : w.ownsRow base T 3 v n (entRow L)) (hk : ∀ x ∈ L, x.ok) : n = L.length ∧ ∃ a cap, v = .slice a L.length cap ∧ EntsIn w a cap L := by
  have hl := h.1
  rw [entRow_length] at hl
  obtain rfl : n = L.length := by omega
  refine ⟨rfl, ?_⟩
  rcases h.2 with ⟨hv, h0⟩ | ⟨g, cap, cur, hv, _, hg, hn, hm, hs, hx⟩
  · exact ⟨none, 0, by rw [hv, h0], by omega, by simp, ⟨none, 0, rfl, fun i hi => by omega⟩, hk⟩
  · refine ⟨some ⟨g, 0, none⟩, cap, hv, hn, hm, ⟨some ⟨g, 0, none⟩, cap, rfl, fun i hi => ⟨g, 0, rfl, ?_⟩⟩, hk⟩
    have key : ∀ j, j < 3 → w.cell? ⟨g, 0 + i * 3 + j, none⟩ = (entCells L[i])[j]? := by
      intro j hj
      rw [Lib.cell_of_heap hg, ← entRow_get L i j hi hj, ← hx, List.getElem?_take, if_pos (by omega), Array.getElem?_toList, Nat.zero_add]
    exact ⟨by simpa [entCells] using key 0 (by omega), by simpa [entCells] using key 1 (by omega), by simpa [entCells] using key 2 (by omega)⟩
theorem take_ent (L : List Ent) (i : Nat) (h : i < L.length) : entRow (L.take (i + 1)) = entRow (L.take i) ++ entRow [L[i]] := by
  rw [List.take_succ_eq_append_getElem h, entRow_append]
theorem below_eq (w : World) : ∃ w0, w0 = w ∧ Below w.heap.size w w0 := ⟨w, rfl, Below.refl _ _⟩
def fewM (m : Msg) : Bool := decide (m.ents.length ≤ 50) && (decide (m.body.length ≤ 1000) && m.ents.all fun x => decide (x.b.length ≤ 1000))
theorem few_take (L : List Ent) (i : Nat) (hi : i < L.length) (h : (L.take i).all (fun x => decide (x.b.length ≤ 1000)) = true) : (L.take (i + 1)).all (fun x => decide (x.b.length ≤ 1000)) = decide (L[i].b.length ≤ 1000) := by
  rw [List.take_succ_eq_append_getElem hi, List.all_append, h]; simp
theorem few_stop (L : List Ent) (i : Nat) (hi : i < L.length) (h : ¬ L[i].b.length ≤ 1000) : L.all (fun x => decide (x.b.length ≤ 1000)) = false := by
  rw [List.all_eq_false]
  exact ⟨L[i], List.getElem_mem hi, by simpa using h⟩
set_option maxRecDepth 100000 in
set_option maxHeartbeats 1600000 in
theorem fewM_any (m : Msg) (a : Option Addr) (cap : Nat) (w : World) (hE : EntsIn w a cap m.ents) (hm : m.ok) : Calls Tryz.prog 13 #[msgV m a cap] w fun e w' => e = .returned (.bool (fewM m)) ∧ Below w.heap.size w w' := by
  have HV : Hid (fewM m = (decide (m.ents.length ≤ 50) && (decide (m.body.length ≤ 1000) && m.ents.all fun x => decide (x.b.length ≤ 1000)))) := rfl
  have hbl : (bs m.body).size ≤ maxLen := by rw [bs_size]; exact hm.2.2.2.2.2.2.2.2.2.2.2.1
  have HS : Hid ((bs m.body).size = m.body.length) := bs_size _
  have hk := hE.2.1
  have hlc := hE.1
  unfold maxLen at hk hbl
  obtain ⟨ty, ld, ⟨z1, z2⟩, ep, own, ⟨f1, f2⟩, rnd, st, kd, body, ents, flag, node, cli, seq⟩ := m
  simp only at hE hlc HV HS hbl
  unfold msgV msgCells
  simp only
  generalize fewM _ = V at *
  have hB := alloc_below w (.cells #[.int .i64 ty, .int .i64 ld, .int .i64 z1, .int .i64 z2, .int .i64 ep, .int .i64 own, .int .i64 f1, .int .i64 f2, .int .i64 rnd, .int .i64 st, .int .i64 kd, .string (bs body), .slice a ents.length cap, .bool flag, .int .i64 node, .int .i64 cli, .int .i64 seq] 54)
  have c12 : (w.alloc (.cells #[.int .i64 ty, .int .i64 ld, .int .i64 z1, .int .i64 z2, .int .i64 ep, .int .i64 own, .int .i64 f1, .int .i64 f2, .int .i64 rnd, .int .i64 st, .int .i64 kd, .string (bs body), .slice a ents.length cap, .bool flag, .int .i64 node, .int .i64 cli, .int .i64 seq] 54)).cell? ⟨w.heap.size, 12, none⟩ = some (.slice a ents.length cap) := by simp
  have c11 : (w.alloc (.cells #[.int .i64 ty, .int .i64 ld, .int .i64 z1, .int .i64 z2, .int .i64 ep, .int .i64 own, .int .i64 f1, .int .i64 f2, .int .i64 rnd, .int .i64 st, .int .i64 kd, .string (bs body), .slice a ents.length cap, .bool flag, .int .i64 node, .int .i64 cli, .int .i64 seq] 54)).cell? ⟨w.heap.size, 11, none⟩ = some (.string (bs body)) := by simp
  have hE := hE.grew hB
  go_enter Tryz.func13, Tryz.ntmps13
  go_upto_region 1 with (fail)
  generalize w.alloc _ = W at *
  clear hm
  by_cases h1 : ents.length ≤ 50
  · have t1 : decide ((50 : Int) < (ents.length : Int)) = false := decide_eq_false (by omega)
    rw [decide_eq_true h1, Bool.true_and] at HV
    by_cases h2 : body.length ≤ 1000
    · have t2 : decide ((1000 : Int) < ((bs body).size : Int)) = false := decide_eq_false (by rw [bs_size]; omega)
      rw [decide_eq_true h2, Bool.true_and] at HV
      go_wp2
      go_loop [3] (fun v3 => ∃ (i : Nat), v3 = .int .i64 (i : Int) ∧ i ≤ ents.length ∧ Hid ((ents.take i).all (fun x => decide (x.b.length ≤ 1000)) = true)) (fun v3 => ents.length - (intOf v3).toNat)
      case atStart => exact ⟨0, rfl, by omega, by show _ = _; simp⟩
      case round =>
        obtain ⟨i, rfl, hi, hw⟩ := hrel
        by_cases hp : i < ents.length
        · obtain ⟨bb, off, rfl, e0, e1, e2⟩ := ents_get hE.2.2.1 i hp
          have hlb := (hE.2.2.2 _ (List.getElem_mem hp)).2.2
          unfold maxLen at hlb
          have hlb' : (bs ents[i].b).size ≤ 9223372036854775807 := by rw [bs_size]; exact hlb
          by_cases hb : ents[i].b.length ≤ 1000
          · as_aux_lemma =>
            have HW : Hid ((ents.take (i + 1)).all (fun x => decide (x.b.length ≤ 1000)) = true) := by show _ = _; rw [few_take ents i hp hw.out]; exact decide_eq_true hb
            have t3 : decide ((1000 : Int) < ((bs ents[i].b).size : Int)) = false := decide_eq_false (by rw [bs_size]; omega)
            generalize ents[i] = x at *
            go_wp2
            go_round
            case rel => exact ⟨i + 1, by go_num, by omega, HW⟩
            case measure => simp [intOf]; omega
          · as_aux_lemma =>
            have HR : Hid (V = false) := by show _ = _; rw [HV.out]; exact few_stop ents i hp hb
            have t3 : decide ((1000 : Int) < ((bs ents[i].b).size : Int)) = true := decide_eq_true (by rw [bs_size]; omega)
            generalize ents[i] = x at *
            go_wp2
            go_ret
            exact ⟨by rw [HR.out]; rfl, hB⟩
        · as_aux_lemma =>
          have HR : Hid (V = true) := by
            show _ = _
            rw [HV.out]
            have := hw.out
            rw [List.take_of_length_le (by omega)] at this
            exact this
          go_wp2
          go_ret
          exact ⟨by rw [HR.out]; rfl, hB⟩
    · as_aux_lemma =>
      have t2 : decide ((1000 : Int) < ((bs body).size : Int)) = true := decide_eq_true (by rw [bs_size]; omega)
      rw [decide_eq_false h2, Bool.false_and] at HV
      go_wp2
      go_ret
      exact ⟨by rw [HV.out]; rfl, hB⟩
  · as_aux_lemma =>
    have t1 : decide ((50 : Int) < (ents.length : Int)) = true := decide_eq_true (by omega)
    rw [decide_eq_false h1, Bool.false_and] at HV
    go_wp2
    go_ret
    exact ⟨by rw [HV.out]; rfl, hB⟩
end Go.Proofs.YtkidhbflojlmoaaGreat
