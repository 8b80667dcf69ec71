/- The walks of put, cut and own. Conditions: as each theorem says. -/
import Derived.Test.YteoibolompiohaaCopy
import Derived.Test.YteoibolompiohaaIdxV
namespace Go.Proofs.Yteoibolompiohaa
open Go.RowKit

abbrev TrT : TypeId := 60
abbrev NdT : TypeId := 70
abbrev PrT : TypeId := 37
abbrev InT : TypeId := 3
def prCells (p : Pr) : List Value := [.string (bs p.1), .int .i64 p.2]
def inCells (n : Nat) : List Value := [.int .i64 (n : Int)]
def ndCells (x : Value × Value) : List Value := [x.1, x.2]
theorem prCells_len (p : Pr) : (prCells p).length = 2 := rfl
theorem inCells_len (n : Nat) : (inCells n).length = 1 := rfl
theorem ndCells_len (x : Value × Value) : (ndCells x).length = 2 := rfl
theorem prCells_one (p : Pr) : ∀ u ∈ prCells p, u.oneCell' = true := by
  intro u hu
  simp only [prCells, List.mem_cons, List.not_mem_nil, or_false] at hu
  rcases hu with rfl | rfl <;> rfl
theorem inCells_one (n : Nat) : ∀ u ∈ inCells n, u.oneCell' = true := by
  intro u hu
  simp only [inCells, List.mem_cons, List.not_mem_nil, or_false] at hu
  rcases hu with rfl; rfl
theorem infoIn : (Try.prog.info? InT).map (fun i => (i.zero, i.size, i.bytes)) = some (some (.int .i64 0), 1, 8) := by kernel_rfl
theorem infoPr : (Try.prog.info? PrT).map (fun i => (i.zero, i.size, i.bytes)) = some (some (.agg #[.string ⟨#[]⟩, .int .i64 0]), 2, 24) := by kernel_rfl
theorem infoNd : (Try.prog.info? NdT).map (fun i => (i.zero, i.size, i.bytes)) = some (some (.agg #[.slice none 0 0, .slice none 0 0]), 2, 48) := by kernel_rfl
theorem sizeIn : (Try.prog.info? InT).map (·.size) = some 1 := by kernel_rfl
theorem sizePr : (Try.prog.info? PrT).map (·.size) = some 2 := by kernel_rfl
theorem sizeNd : (Try.prog.info? NdT).map (·.size) = some 2 := by kernel_rfl
/-- The elements from place i on. -/
theorem rows_from {α : Type} {T : TypeId} {k : Nat} {enc : α → List Value} {base : Nat} {L : List α} {w : World} {g n c : Nat} (h : Grow T k enc base (.slice (some ⟨g, 0, none⟩) n c) L w) (hlen : ∀ x, (enc x).length = k) (i m : Nat) (hi : i ≤ L.length) (hm : m = L.length - i) (cap : Nat) :
    RowsAt k enc w (.slice (some ⟨g, i * k, none⟩) m cap) (L.drop i) := by
  have hn : n = L.length := by
    rcases h.2 with ⟨h', _⟩ | ⟨g', cap', cur, h', _⟩
    · simp at h'
    · simp only [Value.slice.injEq] at h'; exact h'.2.1
  subst hn
  refine ⟨_, cap, by simp [hm], fun j hj => ⟨g, i * k, rfl, ?_⟩⟩
  rw [List.length_drop] at hj
  have := h.cells hlen rfl (i + j) (by omega)
  rw [← Nat.add_mul, List.getElem_drop]
  exact this
theorem rows_none {α : Type} {k : Nat} {enc : α → List Value} {w : World} (a : Option Addr) (cap : Nat) : RowsAt k enc w (.slice a 0 cap) ([] : List α) := ⟨a, cap, rfl, fun i hi => by simp at hi⟩
theorem grow_cap {α : Type} {T : TypeId} {k : Nat} {enc : α → List Value} {base : Nat} {L : List α} {w : World} {g n c : Nat} (h : Grow T k enc base (.slice (some ⟨g, 0, none⟩) n c) L w) : n = L.length ∧ n ≤ c ∧ c ≤ maxLen := by
  rcases h.2 with ⟨h', _⟩ | ⟨g', cap', cur, h', _, _, h1, h2, _⟩
  · simp at h'
  · simp only [Value.slice.injEq, Option.some.injEq, Addr.mk.injEq, and_true, true_and] at h'
    obtain ⟨rfl, rfl, rfl⟩ := h'
    exact ⟨rfl, h1, h2⟩
theorem cut_laid {α : Type} (L : List α) (i : Nat) (hi : i < L.length) (m : Nat) (hm : m = L.length - (i + 1)) : (laidL L i ((L.drop (i + 1)).take m)).take (L.length - 1) = cutL L i := by
  unfold laidL cutL
  rw [List.take_of_length_le (by simp; omega : (L.drop (i + 1)).length ≤ m)]
  rw [List.take_append_of_le_length (by simp; omega), List.take_of_length_le (by simp; omega)]
theorem put_laid {α : Type} (L : List α) (i : Nat) (x : α) (hi : i ≤ L.length) : (laidL (L ++ [x]) (i + 1) (((L ++ [x]).drop i).take (Nat.min (L.length + 1 - i) (L.length + 1 - (i + 1))))).set i x = putL L i x ∧
    (laidL (L ++ [x]) (i + 1) (((L ++ [x]).drop i).take (Nat.min (L.length + 1 - i) (L.length + 1 - (i + 1))))).length = L.length + 1 := by
  have hm : Nat.min (L.length + 1 - i) (L.length + 1 - (i + 1)) = L.length - i := by show min _ _ = _; omega
  rw [hm]
  have e0 : ((L ++ [x]).drop i).take (L.length - i) = L.drop i := by
    rw [List.drop_append_of_le_length hi, List.take_append_of_le_length (by rw [List.length_drop]; omega), List.take_of_length_le (by rw [List.length_drop]; omega)]
  have e1 : laidL (L ++ [x]) (i + 1) (((L ++ [x]).drop i).take (L.length - i)) = (L ++ [x]).take (i + 1) ++ L.drop i := by
    have e2 : (L ++ [x]).drop (i + 1 + (L.drop i).length) = [] := List.drop_of_length_le (by simp; omega)
    unfold laidL
    rw [e0, e2, List.append_nil]
  rw [e1]
  constructor
  · have hl : ((L ++ [x]).take (i + 1)).length = i + 1 := by simp; omega
    rw [List.set_append_left _ _ (by omega)]
    unfold putL
    rw [List.set_eq_take_append_cons_drop, if_pos (by omega), List.drop_of_length_le (by omega), List.take_take, Nat.min_eq_left (by omega), List.take_append_of_le_length hi]
    simp
  · simp; omega
/-- What a put comes to. -/
def PutSaid {α : Type} (G : Value → List α → World → Prop) (v : Value) (L : List α) (w : World) (e : Ending) (w' : World) : Prop :=
  ∃ g c, e = .returned (.slice (some ⟨g, 0, none⟩) L.length c) ∧ G (.slice (some ⟨g, 0, none⟩) L.length c) L w' ∧ w.grownBy w' v.ownBlock ∧ (v.ownBlock = some g ∨ w.heap.size ≤ g)
/-- What was written is the row that it was, or a new one. -/
theorem grown_own {w w1 w2 : World} {row : Option Nat} {g : Nat} (h : w.grownBy w1 row) (h2 : w1.grownBy w2 (some g)) (hg : row = some g ∨ w.heap.size ≤ g) : w.grownBy w2 row :=
  ⟨h2.os.trans h.os, h2.tape.trans h.tape, h2.output.trans h.output, Nat.le_trans h.size h2.size, fun k hk hne => by
    rw [h2.block k (Nat.lt_of_lt_of_le hk h.size) (fun e => by
      rcases hg with hg | hg
      · exact hne (by rw [hg, e])
      · simp only [Option.some.injEq] at e; omega), h.block k hk hne]⟩
set_option maxRecDepth 100000 in
set_option maxHeartbeats 1000000 in
theorem cutIn_any (g n c : Nat) (L : List Nat) (i : Nat) (hi : i < L.length) (hL : L.length ≤ 1000000) (w : World) (h : Grow InT 1 inCells 0 (.slice (some ⟨g, 0, none⟩) n c) L w) :
    Calls Try.prog 48 #[.slice (some ⟨g, 0, none⟩) n c, .int .i64 (i : Int)] w fun e w' => e = .returned (.slice (some ⟨g, 0, none⟩) (L.length - 1) c) ∧ Grow InT 1 inCells 0 (.slice (some ⟨g, 0, none⟩) (L.length - 1) c) (cutL L i) w' ∧ w.grownBy w' (some g) := by
  obtain ⟨rfl, hnc, hcm⟩ := grow_cap h
  unfold maxLen at hcm
  have hi1 : (i : Int) ≤ (c : Int) := by omega
  have hi2 : (i : Int) + 1 ≤ (c : Int) := by omega
  have hi3 : (i : Int) ≤ (L.length : Int) := by omega
  have hi4 : (i : Int) + 1 ≤ (L.length : Int) := by omega
  have hw : IntKind.i64.wrap ((i : Int) + 1) = (i : Int) + 1 := IntWalk.i64_in _ (by omega)
  have h0 : (0 : Int) ≤ (i : Int) + 1 := by omega
  have ht : ((i : Int) + 1).toNat = i + 1 := by omega
  have hci : ¬ c = i := by omega
  by_cases hc : i + 1 = c
  · subst hc
    have HE : Hid (L.take (L.length - 1) = cutL L i) := Lib.hid (by unfold cutL; rw [List.drop_of_length_le (by omega), List.append_nil]; congr 1; omega)
    obtain ⟨w2, hrun, hG2, hg2⟩ := copy_run (P := Try.prog) 58 58 3 Try.underlying58 sizeIn (by omega) inCells_len inCells_one h.drew i (L.length - i) 1 (some ⟨g, i, none⟩) (fun _ => by rw [Nat.mul_one]) (by omega) (some ⟨g, 0, none⟩) 0 0 (rows_none _ _)
    have hs := hG2.short inCells_len (L.length - 1) (by rw [laidL_length _ (by simp; omega)]; omega)
    rw [show laidL L i (([] : List Nat).take (Nat.min 0 (L.length - i))) = L by simp [laidL], HE.out] at hs
    have HS := Lib.hid hs
    have HG2 := Lib.hid hg2
    clear hs hG2 hg2 h HE
    go_enter Try.func48, Try.ntmps48
    go_wp2
    go_region
    clear hrun
    go_wp2
    go_ret
    exact ⟨rfl, HS.out, (grown_drew w (some g)).trans HG2.out⟩
  · have hci1 : ¬ c = i + 1 := fun e => hc e.symm
    have HF : Hid (∀ m, m = L.length - (i + 1) → (laidL L i ((L.drop (i + 1)).take m)).take (L.length - 1) = cutL L i) := Lib.hid (cut_laid L i hi)
    have hR := rows_from h.drew inCells_len (i + 1) (L.length - (i + 1)) (by omega) rfl (c - (i + 1))
    rw [Nat.mul_one] at hR
    obtain ⟨w2, hrun, hG2, hg2⟩ := copy_run (P := Try.prog) 58 58 3 Try.underlying58 sizeIn (by omega) inCells_len inCells_one h.drew i (L.length - i) (c - i) (some ⟨g, i, none⟩) (fun _ => by rw [Nat.mul_one]) (by omega) (some ⟨g, i + 1, none⟩) (c - (i + 1)) (L.length - (i + 1)) hR
    have hmin : Nat.min (L.length - (i + 1)) (L.length - i) = L.length - (i + 1) := Nat.min_eq_left (by omega)
    have hs := hG2.short inCells_len (L.length - 1) (by rw [laidL_length _ (by simp; omega)]; omega)
    rw [hmin, HF.out _ rfl] at hs
    have HS := Lib.hid hs
    have HG2 := Lib.hid hg2
    clear hs hG2 hg2 h HF hmin hR hc
    go_enter Try.func48, Try.ntmps48
    go_wp2
    go_region
    clear hrun
    go_wp2
    go_ret
    exact ⟨rfl, HS.out, (grown_drew w (some g)).trans HG2.out⟩
set_option maxRecDepth 100000 in
set_option maxHeartbeats 1000000 in
theorem cutPr_any (g n c : Nat) (L : List Pr) (i : Nat) (hi : i < L.length) (hL : L.length ≤ 1000000) (w : World) (h : Grow PrT 2 prCells 0 (.slice (some ⟨g, 0, none⟩) n c) L w) :
    Calls Try.prog 44 #[.slice (some ⟨g, 0, none⟩) n c, .int .i64 (i : Int)] w fun e w' => e = .returned (.slice (some ⟨g, 0, none⟩) (L.length - 1) c) ∧ Grow PrT 2 prCells 0 (.slice (some ⟨g, 0, none⟩) (L.length - 1) c) (cutL L i) w' ∧ w.grownBy w' (some g) := by
  obtain ⟨rfl, hnc, hcm⟩ := grow_cap h
  unfold maxLen at hcm
  have hi1 : (i : Int) ≤ (c : Int) := by omega
  have hi2 : (i : Int) + 1 ≤ (c : Int) := by omega
  have hi3 : (i : Int) ≤ (L.length : Int) := by omega
  have hi4 : (i : Int) + 1 ≤ (L.length : Int) := by omega
  have hw : IntKind.i64.wrap ((i : Int) + 1) = (i : Int) + 1 := IntWalk.i64_in _ (by omega)
  have h0 : (0 : Int) ≤ (i : Int) + 1 := by omega
  have ht : ((i : Int) + 1).toNat = i + 1 := by omega
  have hci : ¬ c = i := by omega
  by_cases hc : i + 1 = c
  · subst hc
    have HE : Hid (L.take (L.length - 1) = cutL L i) := Lib.hid (by unfold cutL; rw [List.drop_of_length_le (by omega), List.append_nil]; congr 1; omega)
    obtain ⟨w2, hrun, hG2, hg2⟩ := copy_run (P := Try.prog) 31 31 3 Try.underlying31 sizePr (by omega) prCells_len prCells_one h.drew i (L.length - i) 1 (some ⟨g, i * 2, none⟩) (fun _ => by rfl) (by omega) (some ⟨g, 0, none⟩) 0 0 (rows_none _ _)
    have hs := hG2.short prCells_len (L.length - 1) (by rw [laidL_length _ (by simp; omega)]; omega)
    rw [show laidL L i (([] : List Pr).take (Nat.min 0 (L.length - i))) = L by simp [laidL], HE.out] at hs
    have HS := Lib.hid hs
    have HG2 := Lib.hid hg2
    clear hs hG2 hg2 h HE
    go_enter Try.func44, Try.ntmps44
    go_wp2
    go_region
    clear hrun
    go_wp2
    go_ret
    exact ⟨rfl, HS.out, (grown_drew w (some g)).trans HG2.out⟩
  · have hci1 : ¬ c = i + 1 := fun e => hc e.symm
    have HF : Hid (∀ m, m = L.length - (i + 1) → (laidL L i ((L.drop (i + 1)).take m)).take (L.length - 1) = cutL L i) := Lib.hid (cut_laid L i hi)
    have hR := rows_from h.drew prCells_len (i + 1) (L.length - (i + 1)) (by omega) rfl (c - (i + 1))
    skip
    obtain ⟨w2, hrun, hG2, hg2⟩ := copy_run (P := Try.prog) 31 31 3 Try.underlying31 sizePr (by omega) prCells_len prCells_one h.drew i (L.length - i) (c - i) (some ⟨g, i * 2, none⟩) (fun _ => by rfl) (by omega) (some ⟨g, (i + 1) * 2, none⟩) (c - (i + 1)) (L.length - (i + 1)) hR
    have hmin : Nat.min (L.length - (i + 1)) (L.length - i) = L.length - (i + 1) := Nat.min_eq_left (by omega)
    have hs := hG2.short prCells_len (L.length - 1) (by rw [laidL_length _ (by simp; omega)]; omega)
    rw [hmin, HF.out _ rfl] at hs
    have HS := Lib.hid hs
    have HG2 := Lib.hid hg2
    clear hs hG2 hg2 h HF hmin hR hc
    go_enter Try.func44, Try.ntmps44
    go_wp2
    go_region
    clear hrun
    go_wp2
    go_ret
    exact ⟨rfl, HS.out, (grown_drew w (some g)).trans HG2.out⟩
set_option maxRecDepth 100000 in
set_option maxHeartbeats 1000000 in
theorem putIn_any (v : Value) (L : List Nat) (i : Nat) (hi : i ≤ L.length) (hL : L.length ≤ 1000000) (x : Nat) (w : World) (h : Grow InT 1 inCells 0 v L w) :
    Calls Try.prog 43 #[v, .int .i64 (i : Int), .int .i64 (x : Int)] w fun e w' => PutSaid (Grow InT 1 inCells 0) v (putL L i x) w e w' := by
  obtain ⟨a0, c0, hv0⟩ := h.slice
  have hvl : ∀ k, v.ownBlock = some k → k < w.heap.size := fun k hk => (World.ownsRow.lt h k hk).2
  obtain ⟨g, c, w1, hrun1, hG1, hgr, hat, hlt, hsz⟩ := append_run (P := Try.prog) (w := w) 58 Try.underlying58 (.int .i64 0) 8 infoIn rfl (by omega) h (by omega) x (inCells_len x) (inCells_one x) (by unfold maxLen; omega) (by omega)
  have hgn : v.ownBlock = some g ∨ w.heap.size ≤ g := by
    rcases hat with h' | h'
    · exact .inl h'
    · right; rw [h']; omega
  obtain ⟨-, hnc, hcm⟩ := grow_cap hG1
  unfold maxLen at hcm
  unfold inCells at hrun1
  have hi1 : (i : Int) ≤ (c : Int) := by omega
  have hi2 : (i : Int) + 1 ≤ (c : Int) := by omega
  have hi3 : (i : Int) ≤ (L.length : Int) + 1 := by omega
  have hi4 : (i : Int) + 1 ≤ (L.length : Int) + 1 := by omega
  have hi5 : (i : Int) < (L.length : Int) + 1 := by omega
  have hw : IntKind.i64.wrap ((i : Int) + 1) = (i : Int) + 1 := IntWalk.i64_in _ (by omega)
  have h0 : (0 : Int) ≤ (i : Int) + 1 := by omega
  have ht : ((i : Int) + 1).toNat = i + 1 := by omega
  have hci : ¬ c = i := by omega
  have hR := rows_from hG1.drew inCells_len i (L.length + 1 - i) (by rw [List.length_append, List.length_singleton]; omega) (by rw [List.length_append, List.length_singleton]) (c - i)
  rw [Nat.mul_one] at hR
  by_cases hc : i + 1 = c
  · have hcc : (i + 1 = c) = (c = i + 1) := propext ⟨Eq.symm, Eq.symm⟩
    rw [hcc] at hc
    obtain ⟨w2, hrun2, hG2, hg2⟩ := copy_run (P := Try.prog) 58 58 3 Try.underlying58 sizeIn (by omega) inCells_len inCells_one hG1.drew (i + 1) (L.length + 1 - (i + 1)) (c - (i + 1)) (if c = i + 1 then some ⟨g, 0, none⟩ else some ⟨g, i + 1, none⟩) (fun hp => by rw [if_neg (by omega)]; rw [Nat.mul_one]) (by rw [List.length_append, List.length_singleton]; omega) (some ⟨g, i, none⟩) (c - i) (L.length + 1 - i) hR
    have HF : Hid ((laidL (L ++ [x]) (i + 1) (((L ++ [x]).drop i).take (Nat.min (L.length + 1 - i) (L.length + 1 - (i + 1))))).set i x = putL L i x ∧ (laidL (L ++ [x]) (i + 1) (((L ++ [x]).drop i).take (Nat.min (L.length + 1 - i) (L.length + 1 - (i + 1))))).length = L.length + 1) := Lib.hid (put_laid L i x hi)
    have hil : i < (laidL (L ++ [x]) (i + 1) (((L ++ [x]).drop i).take (Nat.min (L.length + 1 - i) (L.length + 1 - (i + 1))))).length := by rw [HF.out.2]; omega
    obtain ⟨hG3, hg3⟩ := hG2.stores inCells_len i hil x (inCells x) rfl
    rw [HF.out.1] at hG3
    obtain ⟨q, hcell⟩ : ∃ q : Nat, w2.rangeAt g (i * 1) (inCells q) := ⟨_, hG2.cells inCells_len (by rw [HF.out.2]) i hil⟩
    unfold inCells at hcell hG3 hg3
    have k0 := hcell 0 _ rfl
    have f0 := Lib.hid (fun j => hG2.thaw (by rw [HF.out.2]) j)
    have f0' := f0.out (i * 1)
    simp only [Nat.mul_one, Nat.add_zero] at k0 f0' hG3 hg3
    have HS := Lib.hid hG3
    have HG : Hid (∀ W, W = w2.setCells g (i * 1) (inCells x) → w.grownBy W v.ownBlock) := Lib.hid (fun W hW => by subst hW; exact grown_own (grown_own (hgr.trans (grown_drew _ _)) hg2 hgn) (by simpa [inCells] using hg3) hgn)
    have HN := Lib.hid hgn
    clear hG3 hg3 hG2 hg2 hcell hR hG1 hgr h hgn hat HF hil hcc hvl
    rw [Nat.add_sub_add_right] at hrun2
    have e2 : c - (i + 1) = 0 := by omega
    have e3 : c - i = 1 := by omega
    have e1 : L.length - i = 0 := by omega
    rw [if_pos hc, e1, e2, e3] at hrun2
    clear e1 e2 e3
    subst hc
    have HRun := Lib.hid hrun1
    clear hrun1
    go_enter Try.func43, Try.ntmps43
    go_wp2_with (at_builtin; refine wpList_append_eq (by rfl) _ _ 58 (by rfl) _ _ _ _ (by rfl) (by rfl) HRun.out ?_)
    go_region
    clear hrun2
    go_wp2
    go_ret
    exact ⟨_, _, by rw [putL_length]; rfl, by rw [putL_length]; exact HS.out, HG.out _ (by first | rfl | (simp only [Nat.mul_one]; rfl)), HN.out⟩
  · have hcc : (i + 1 = c) = (c = i + 1) := propext ⟨Eq.symm, Eq.symm⟩
    rw [hcc] at hc
    obtain ⟨w2, hrun2, hG2, hg2⟩ := copy_run (P := Try.prog) 58 58 3 Try.underlying58 sizeIn (by omega) inCells_len inCells_one hG1.drew (i + 1) (L.length + 1 - (i + 1)) (c - (i + 1)) (if c = i + 1 then some ⟨g, 0, none⟩ else some ⟨g, i + 1, none⟩) (fun hp => by rw [if_neg (by omega)]; rw [Nat.mul_one]) (by rw [List.length_append, List.length_singleton]; omega) (some ⟨g, i, none⟩) (c - i) (L.length + 1 - i) hR
    have HF : Hid ((laidL (L ++ [x]) (i + 1) (((L ++ [x]).drop i).take (Nat.min (L.length + 1 - i) (L.length + 1 - (i + 1))))).set i x = putL L i x ∧ (laidL (L ++ [x]) (i + 1) (((L ++ [x]).drop i).take (Nat.min (L.length + 1 - i) (L.length + 1 - (i + 1))))).length = L.length + 1) := Lib.hid (put_laid L i x hi)
    have hil : i < (laidL (L ++ [x]) (i + 1) (((L ++ [x]).drop i).take (Nat.min (L.length + 1 - i) (L.length + 1 - (i + 1))))).length := by rw [HF.out.2]; omega
    obtain ⟨hG3, hg3⟩ := hG2.stores inCells_len i hil x (inCells x) rfl
    rw [HF.out.1] at hG3
    obtain ⟨q, hcell⟩ : ∃ q : Nat, w2.rangeAt g (i * 1) (inCells q) := ⟨_, hG2.cells inCells_len (by rw [HF.out.2]) i hil⟩
    unfold inCells at hcell hG3 hg3
    have k0 := hcell 0 _ rfl
    have f0 := Lib.hid (fun j => hG2.thaw (by rw [HF.out.2]) j)
    have f0' := f0.out (i * 1)
    simp only [Nat.mul_one, Nat.add_zero] at k0 f0' hG3 hg3
    have HS := Lib.hid hG3
    have HG : Hid (∀ W, W = w2.setCells g (i * 1) (inCells x) → w.grownBy W v.ownBlock) := Lib.hid (fun W hW => by subst hW; exact grown_own (grown_own (hgr.trans (grown_drew _ _)) hg2 hgn) (by simpa [inCells] using hg3) hgn)
    have HN := Lib.hid hgn
    clear hG3 hg3 hG2 hg2 hcell hR hG1 hgr h hgn hat HF hil hcc hvl
    rw [Nat.add_sub_add_right] at hrun2
    rw [if_neg hc] at hrun2
    have HRun := Lib.hid hrun1
    clear hrun1
    go_enter Try.func43, Try.ntmps43
    go_wp2_with (at_builtin; refine wpList_append_eq (by rfl) _ _ 58 (by rfl) _ _ _ _ (by rfl) (by rfl) HRun.out ?_)
    go_region
    clear hrun2
    go_wp2
    go_ret
    exact ⟨_, _, by rw [putL_length]; rfl, by rw [putL_length]; exact HS.out, HG.out _ (by first | rfl | (simp only [Nat.mul_one]; rfl)), HN.out⟩
set_option maxRecDepth 100000 in
set_option maxHeartbeats 1000000 in
theorem putPr_any (v : Value) (L : List Pr) (i : Nat) (hi : i ≤ L.length) (hL : L.length ≤ 1000000) (x : Pr) (w : World) (h : Grow PrT 2 prCells 0 v L w) :
    Calls Try.prog 35 #[v, .int .i64 (i : Int), .agg #[.string (bs x.1), .int .i64 x.2]] w fun e w' => PutSaid (Grow PrT 2 prCells 0) v (putL L i x) w e w' := by
  obtain ⟨a0, c0, hv0⟩ := h.slice
  have hvl : ∀ k, v.ownBlock = some k → k < w.heap.size := fun k hk => (World.ownsRow.lt h k hk).2
  obtain ⟨g, c, w1, hrun1, hG1, hgr, hat, hlt, hsz⟩ := append_run (P := Try.prog) (w := (w.alloc (.cells #[.string (bs x.1), .int .i64 x.2] PrT))) 31 Try.underlying31 (.agg #[.string ⟨#[]⟩, .int .i64 0]) 24 infoPr rfl (by omega) (h.below (alloc_below w _)) (by omega) x (prCells_len x) (prCells_one x) (by unfold maxLen; omega) (by omega)
  have hgn : v.ownBlock = some g ∨ w.heap.size ≤ g := by
    rcases hat with h' | h'
    · exact .inl h'
    · right; rw [h']; simp; omega
  obtain ⟨-, hnc, hcm⟩ := grow_cap hG1
  unfold maxLen at hcm
  unfold prCells at hrun1
  simp only [World.size_alloc] at hrun1
  have hbx := (BlkAt.alloc_new w [.string (bs x.1), .int .i64 x.2] PrT).grown hgr (by intro e; have := hvl _ e.symm; omega)
  have hgx : w.heap.size ≠ g := by
    rcases hat with h' | h'
    · have := hvl _ h'; omega
    · rw [h']; simp; omega
  have hi1 : (i : Int) ≤ (c : Int) := by omega
  have hi2 : (i : Int) + 1 ≤ (c : Int) := by omega
  have hi3 : (i : Int) ≤ (L.length : Int) + 1 := by omega
  have hi4 : (i : Int) + 1 ≤ (L.length : Int) + 1 := by omega
  have hi5 : (i : Int) < (L.length : Int) + 1 := by omega
  have hw : IntKind.i64.wrap ((i : Int) + 1) = (i : Int) + 1 := IntWalk.i64_in _ (by omega)
  have h0 : (0 : Int) ≤ (i : Int) + 1 := by omega
  have ht : ((i : Int) + 1).toNat = i + 1 := by omega
  have hci : ¬ c = i := by omega
  have hR := rows_from hG1.drew prCells_len i (L.length + 1 - i) (by rw [List.length_append, List.length_singleton]; omega) (by rw [List.length_append, List.length_singleton]) (c - i)
  skip
  by_cases hc : i + 1 = c
  · have hcc : (i + 1 = c) = (c = i + 1) := propext ⟨Eq.symm, Eq.symm⟩
    rw [hcc] at hc
    obtain ⟨w2, hrun2, hG2, hg2⟩ := copy_run (P := Try.prog) 31 31 3 Try.underlying31 sizePr (by omega) prCells_len prCells_one hG1.drew (i + 1) (L.length + 1 - (i + 1)) (c - (i + 1)) (if c = i + 1 then some ⟨g, 0, none⟩ else some ⟨g, (i + 1) * 2, none⟩) (fun hp => by rw [if_neg (by omega)]) (by rw [List.length_append, List.length_singleton]; omega) (some ⟨g, i * 2, none⟩) (c - i) (L.length + 1 - i) hR
    have HF : Hid ((laidL (L ++ [x]) (i + 1) (((L ++ [x]).drop i).take (Nat.min (L.length + 1 - i) (L.length + 1 - (i + 1))))).set i x = putL L i x ∧ (laidL (L ++ [x]) (i + 1) (((L ++ [x]).drop i).take (Nat.min (L.length + 1 - i) (L.length + 1 - (i + 1))))).length = L.length + 1) := Lib.hid (put_laid L i x hi)
    have hil : i < (laidL (L ++ [x]) (i + 1) (((L ++ [x]).drop i).take (Nat.min (L.length + 1 - i) (L.length + 1 - (i + 1))))).length := by rw [HF.out.2]; omega
    obtain ⟨hG3, hg3⟩ := hG2.stores prCells_len i hil x (prCells x) rfl
    rw [HF.out.1] at hG3
    obtain ⟨q, hcell⟩ : ∃ q : Pr, w2.rangeAt g (i * 2) (prCells q) := ⟨_, hG2.cells prCells_len (by rw [HF.out.2]) i hil⟩
    unfold prCells at hcell hG3 hg3
    have k0 := hcell 0 _ rfl
    have k1 := hcell 1 _ rfl
    have f0 := Lib.hid (fun j => hG2.thaw (by rw [HF.out.2]) j)
    have f0' := f0.out (i * 2)
    have f1' := f0.out (i * 2 + 1)
    simp only [Nat.add_zero] at k0
    have hbx2 : BlkAt w.heap.size PrT [.string (bs x.1), .int .i64 x.2] w2 := (hbx.drew).grown hg2 (by intro e; simp only [Option.some.injEq] at e; exact hgx e)
    have x0 := hbx2.cell (i := 0) rfl
    have x1 := hbx2.cell (i := 1) rfl
    have hgl : g < w2.heap.size := Nat.lt_of_lt_of_le hlt hg2.size
    have HS := Lib.hid hG3
    have HG : Hid (∀ W, W = w2.setCells g (i * 2) (prCells x) → w.grownBy W v.ownBlock) := Lib.hid (fun W hW => by subst hW; exact grown_own (grown_own (((World.grownBy_alloc w _ _).trans hgr).trans (grown_drew _ _)) hg2 hgn) (hg3) hgn)
    have HN := Lib.hid hgn
    clear hG3 hg3 hG2 hg2 hcell hR hG1 hgr h hgn hat HF hil hcc hvl
    rw [Nat.add_sub_add_right] at hrun2
    have e2 : c - (i + 1) = 0 := by omega
    have e3 : c - i = 1 := by omega
    have e1 : L.length - i = 0 := by omega
    rw [if_pos hc, e1, e2, e3] at hrun2
    clear e1 e2 e3
    subst hc
    have HRun := Lib.hid hrun1
    clear hrun1
    go_enter Try.func35, Try.ntmps35
    go_wp2_with (at_builtin; refine wpList_append_eq (by rfl) _ _ 31 (by rfl) _ _ _ _ (by rfl) (by rfl) HRun.out ?_)
    go_region
    clear hrun2
    go_wp2
    go_ret
    exact ⟨_, _, by rw [putL_length]; rfl, by rw [putL_length]; exact HS.out, HG.out _ (by first | rfl | (simp only [Nat.mul_one]; rfl)), HN.out⟩
  · have hcc : (i + 1 = c) = (c = i + 1) := propext ⟨Eq.symm, Eq.symm⟩
    rw [hcc] at hc
    obtain ⟨w2, hrun2, hG2, hg2⟩ := copy_run (P := Try.prog) 31 31 3 Try.underlying31 sizePr (by omega) prCells_len prCells_one hG1.drew (i + 1) (L.length + 1 - (i + 1)) (c - (i + 1)) (if c = i + 1 then some ⟨g, 0, none⟩ else some ⟨g, (i + 1) * 2, none⟩) (fun hp => by rw [if_neg (by omega)]) (by rw [List.length_append, List.length_singleton]; omega) (some ⟨g, i * 2, none⟩) (c - i) (L.length + 1 - i) hR
    have HF : Hid ((laidL (L ++ [x]) (i + 1) (((L ++ [x]).drop i).take (Nat.min (L.length + 1 - i) (L.length + 1 - (i + 1))))).set i x = putL L i x ∧ (laidL (L ++ [x]) (i + 1) (((L ++ [x]).drop i).take (Nat.min (L.length + 1 - i) (L.length + 1 - (i + 1))))).length = L.length + 1) := Lib.hid (put_laid L i x hi)
    have hil : i < (laidL (L ++ [x]) (i + 1) (((L ++ [x]).drop i).take (Nat.min (L.length + 1 - i) (L.length + 1 - (i + 1))))).length := by rw [HF.out.2]; omega
    obtain ⟨hG3, hg3⟩ := hG2.stores prCells_len i hil x (prCells x) rfl
    rw [HF.out.1] at hG3
    obtain ⟨q, hcell⟩ : ∃ q : Pr, w2.rangeAt g (i * 2) (prCells q) := ⟨_, hG2.cells prCells_len (by rw [HF.out.2]) i hil⟩
    unfold prCells at hcell hG3 hg3
    have k0 := hcell 0 _ rfl
    have k1 := hcell 1 _ rfl
    have f0 := Lib.hid (fun j => hG2.thaw (by rw [HF.out.2]) j)
    have f0' := f0.out (i * 2)
    have f1' := f0.out (i * 2 + 1)
    simp only [Nat.add_zero] at k0
    have hbx2 : BlkAt w.heap.size PrT [.string (bs x.1), .int .i64 x.2] w2 := (hbx.drew).grown hg2 (by intro e; simp only [Option.some.injEq] at e; exact hgx e)
    have x0 := hbx2.cell (i := 0) rfl
    have x1 := hbx2.cell (i := 1) rfl
    have hgl : g < w2.heap.size := Nat.lt_of_lt_of_le hlt hg2.size
    have HS := Lib.hid hG3
    have HG : Hid (∀ W, W = w2.setCells g (i * 2) (prCells x) → w.grownBy W v.ownBlock) := Lib.hid (fun W hW => by subst hW; exact grown_own (grown_own (((World.grownBy_alloc w _ _).trans hgr).trans (grown_drew _ _)) hg2 hgn) (hg3) hgn)
    have HN := Lib.hid hgn
    clear hG3 hg3 hG2 hg2 hcell hR hG1 hgr h hgn hat HF hil hcc hvl
    rw [Nat.add_sub_add_right] at hrun2
    rw [if_neg hc] at hrun2
    have HRun := Lib.hid hrun1
    clear hrun1
    go_enter Try.func35, Try.ntmps35
    go_wp2_with (at_builtin; refine wpList_append_eq (by rfl) _ _ 31 (by rfl) _ _ _ _ (by rfl) (by rfl) HRun.out ?_)
    go_region
    clear hrun2
    go_wp2
    go_ret
    exact ⟨_, _, by rw [putL_length]; rfl, by rw [putL_length]; exact HS.out, HG.out _ (by first | rfl | (simp only [Nat.mul_one]; rfl)), HN.out⟩
set_option maxRecDepth 100000 in
set_option maxHeartbeats 1000000 in
theorem ownIn_any (L : List Nat) (a : Option Addr) (c : Nat) (hL : L.length ≤ 1000) (w : World) (h : RowsAt 1 inCells w (.slice a L.length c) L) :
    Calls Try.prog 42 #[.slice a L.length c] w fun e w' => ∃ g, e = .returned (.slice (some ⟨g, 0, none⟩) L.length L.length) ∧ Grow InT 1 inCells 0 (.slice (some ⟨g, 0, none⟩) L.length L.length) L w' ∧ w.heap.size ≤ g ∧ Below w.heap.size w w' := by
  obtain ⟨hmk, hG1⟩ := make_run (P := Try.prog) (w := w) 58 Try.underlying58 (.int .i64 0) 8 infoIn 0 rfl inCells_len L.length (by omega) (by omega) 0 (by omega)
  obtain ⟨w2, hrun, hG2, hg2⟩ := copy_run (P := Try.prog) 58 58 3 Try.underlying58 sizeIn (by omega) inCells_len inCells_one hG1 0 L.length L.length (some ⟨w.heap.size, 0, none⟩) (fun _ => by rw [Nat.zero_mul]) (by rw [List.length_replicate]; omega) a c L.length (h.grew (alloc_below w _))
  have hmin : Nat.min L.length L.length = L.length := Nat.min_self _
  rw [hmin] at hrun hG2
  have hl : laidL (List.replicate L.length (0 : Nat)) 0 (L.take L.length) = L := by
    unfold laidL; rw [List.take_of_length_le (Nat.le_refl _)]; simp
  rw [hl] at hG2
  have HB := Lib.hid ((alloc_below w (.cells (rowOf inCells (List.replicate L.length (0 : Nat))).toArray InT)).grown hg2 (by simp) (by intro k hk; simp only [Option.some.injEq] at hk; omega))
  have HG := Lib.hid hG2
  have hn63 : (L.length : Int) ≤ 1000 := by omega
  generalize (rowOf inCells (List.replicate L.length (0 : Nat))).toArray = A at *
  clear hl hmin hG2 hg2 hG1 h
  go_enter Try.func42, Try.ntmps42
  go_wp2
  go_ret
  exact ⟨_, rfl, HG.out, Nat.le_refl _, HB.out⟩
set_option maxRecDepth 100000 in
set_option maxHeartbeats 1000000 in
theorem ownPr_any (L : List Pr) (a : Option Addr) (c : Nat) (hL : L.length ≤ 1000) (w : World) (h : RowsAt 2 prCells w (.slice a L.length c) L) :
    Calls Try.prog 41 #[.slice a L.length c] w fun e w' => ∃ g, e = .returned (.slice (some ⟨g, 0, none⟩) L.length L.length) ∧ Grow PrT 2 prCells 0 (.slice (some ⟨g, 0, none⟩) L.length L.length) L w' ∧ w.heap.size ≤ g ∧ Below w.heap.size w w' := by
  obtain ⟨hmk, hG1⟩ := make_run (P := Try.prog) (w := w) 31 Try.underlying31 (.agg #[.string ⟨#[]⟩, .int .i64 0]) 24 infoPr ([], 0) rfl prCells_len L.length (by omega) (by omega) 0 (by omega)
  obtain ⟨w2, hrun, hG2, hg2⟩ := copy_run (P := Try.prog) 31 31 3 Try.underlying31 sizePr (by omega) prCells_len prCells_one hG1 0 L.length L.length (some ⟨w.heap.size, 0, none⟩) (fun _ => by rw [Nat.zero_mul]) (by rw [List.length_replicate]; omega) a c L.length (h.grew (alloc_below w _))
  have hmin : Nat.min L.length L.length = L.length := Nat.min_self _
  rw [hmin] at hrun hG2
  have hl : laidL (List.replicate L.length (([], 0) : Pr)) 0 (L.take L.length) = L := by
    unfold laidL; rw [List.take_of_length_le (Nat.le_refl _)]; simp
  rw [hl] at hG2
  have HB := Lib.hid ((alloc_below w (.cells (rowOf prCells (List.replicate L.length (([], 0) : Pr))).toArray PrT)).grown hg2 (by simp) (by intro k hk; simp only [Option.some.injEq] at hk; omega))
  have HG := Lib.hid hG2
  have hn63 : (L.length : Int) ≤ 1000 := by omega
  generalize (rowOf prCells (List.replicate L.length (([], 0) : Pr))).toArray = A at *
  clear hl hmin hG2 hg2 hG1 h
  go_enter Try.func41, Try.ntmps41
  go_wp2
  go_ret
  exact ⟨_, rfl, HG.out, Nat.le_refl _, HB.out⟩
end Go.Proofs.Yteoibolompiohaa
