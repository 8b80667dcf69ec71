/- The walk of ZabAlone. Conditions: as each theorem says. -/
import Derived.Test.YtkidhbflojlmoaaZabX
namespace Go.Proofs.Ytkidhbflojlmoaa
open Go.RowKit

/-- The node of the law, in memory: its log lies apart, all of it made since the call. -/
structure AlAt (W0 : World) (g : Nat) (n : Nd) (L : List Ent) (K : Nat) (w : World) : Prop where
  at_ : NodeAt g n w
  al : Al n L K
  log : LogAt n L w
  own : ∀ b, n.lv.ownBlock = some b → W0.heap.size ≤ b ∧ b ≠ g
  g0 : W0.heap.size ≤ g
  below : Below W0.heap.size W0 w
theorem AlAt.grew {W0 : World} {g : Nat} {n : Nd} {L : List Ent} {K : Nat} {w w' : World} (h : AlAt W0 g n L K w) (hb : Below w.heap.size w w') : AlAt W0 g n L K w' :=
  ⟨BlkAt.grew h.at_ hb, h.al, LogOf.grew h.log hb, h.own, h.g0, h.below.trans (hb.mono h.below.size)⟩
section
variable {W0 : World} {g : Nat} {n : Nd} {L : List Ent} {K : Nat} {w : World}
theorem AlAt.Start (h : AlAt W0 g n L K w) (hK : K ≤ 1000) (hn : L ≠ [] → n.acc = (lastN n L).1) :
    Calls Try.prog 6 #[.pointer (some ⟨g, 0, none⟩)] w fun e w' => e = .returned (.slice none 0 0) ∧ ∃ n', AlAt W0 g n' L (K + 1) w' := by
  obtain ⟨b0, hb0⟩ := h.al.pv
  have ha := h.al.acc1
  have ha0 := h.al.acc0
  refine (Start_one g n h.al.lone (by omega) (by omega) (by rw [h.al.cur]; omega) L h.al.lo1 h.al.lo2 b0 hb0 h.al.ov w h.at_ h.log (fun b hb => (h.own b hb).2)).mono ?_
  rintro e w' ⟨he, ⟨q, hq⟩, hg⟩
  refine ⟨he, _, hq, h.al.start hn q, LogOf.kept h.log hg (fun b hb e => (h.own b hb).2 (by simpa using e)), h.own, h.g0, below_row h.below h.g0 hg⟩
theorem AlAt.Propose (h : AlAt W0 g n L K w) (t : List UInt8) (hl : L.length < 900) :
    Calls Try.prog 7 #[.pointer (some ⟨g, 0, none⟩), .string (bs t)] w fun e w' => e = .returned (.tuple #[.slice none 0 0, .int .i64 0]) ∧ ∃ n' z, AlAt W0 g n' (snocE L z t) K w' ∧ n'.acc = (lastN n' (snocE L z t)).1 := by
  have h2 := h.al.hi2
  have ha := next_above h.al
  refine (propose_one g n h.al.lone h.al.is h.al.step h.al.ov L t hl _ rfl h.al.lo2 (by omega) (by rw [h.al.commit]; exact ha) w h.at_ h.log (fun b hb => (h.own b hb).2)).mono ?_
  rintro e w' ⟨he, ⟨v, h1, h2, h3⟩, hg⟩
  refine ⟨he, _, nextZ n.acc (lastN n L), ⟨h1, h.al.propose t v _ rfl, h2, fun b hb => ?_, h.g0, below_row h.below h.g0 hg⟩, Al.last_acc v t _ rfl⟩
  have h4 := h3 b hb
  have h5 := BlkAt.lt h.at_
  have h6 := h.below.size
  exact ⟨by omega, by omega⟩
theorem AlAt.State (h : AlAt W0 g n L K w) :
    Calls Try.prog 9 #[.pointer (some ⟨g, 0, none⟩)] w fun e w' => ∃ a c, e = .returned (.agg #[.int .i64 n.acc, .int .i64 n.cur, .int .i64 n.beg.1, .int .i64 n.beg.2, .string (bs n.img), .slice a L.length c]) ∧ EntsAt w' (.slice a L.length c) L ∧ L.length ≤ c ∧ (∀ b, (Value.slice a L.length c).ownBlock = some b → w.heap.size ≤ b) ∧ Below w.heap.size w w' :=
  (state_own g n h.al.lone.fit L w h.at_ h.log).mono fun _ _ ⟨v, he, ⟨a, c, hv, hE, _, hc⟩, ho, hb⟩ => ⟨a, c, by rw [he, hv]; rfl, by rw [← hv]; exact hE, hc, by rw [← hv]; exact ho, hb⟩
theorem AlAt.committed (h : AlAt W0 g n L K w) :
    Calls Try.prog 8 #[.pointer (some ⟨g, 0, none⟩)] w fun e w' => ∃ a c, e = .returned (.slice a L.length c) ∧ Below w.heap.size w w' := by
  refine (comm_any g n h.al.lone.fit L w h.at_ h.log).mono ?_
  rintro e w' ⟨a, c, he, _, hb⟩
  rw [h.al.commit, findN_all L _ h.al.max] at he
  exact ⟨a, c, he, hb⟩
theorem AlAt.Compact (h : AlAt W0 g n L K w) (i : Nat) (hi : i < L.length) (t : List UInt8) :
    Calls Try.prog 10 #[.pointer (some ⟨g, 0, none⟩), .agg #[.int .i64 L[i].e, .int .i64 L[i].c], .string (bs t)] w fun e w' => e = .returned (.int .i64 0) ∧ ∃ n', NodeAt g n' w' ∧ n'.fit ∧ LogAt n' (L.drop (i + 1)) w' ∧ n'.beg = L[i].z ∧ n'.img = t ∧ Below W0.heap.size W0 w' ∧ w.grownBy w' (some g) := by
  obtain ⟨hf1, hf2⟩ := h.al.steps.find i hi
  refine (compact_any g n h.al.lone.fit L L[i].z t hf2 (by rw [h.al.commit]; exact h.al.max _ (List.getElem_mem hi)) w h.at_ h.log).mono ?_
  rintro e w' ⟨he, ⟨v, h1, h2, _⟩, hg⟩
  rw [hf1] at h2
  exact ⟨he, _, h1, ⟨h.al.lone.fit.n1, h.al.lone.fit.n7, h.al.lone.fit.me, h.al.lone.fit.peers⟩, h2, rfl, rfl, below_row h.below h.g0 hg, hg⟩
end
end Go.Proofs.Ytkidhbflojlmoaa
