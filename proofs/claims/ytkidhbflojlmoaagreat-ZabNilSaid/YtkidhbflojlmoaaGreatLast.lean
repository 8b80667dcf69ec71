/- A region that draws its order and whose last operation waits for all others: what is quiet in every world that meets S is taken first, the few others come in one order; S is shown behind each of these but the last. The induction over the orders is turned from Derived/OrdersHeld.lean's. Conditions: as each theorem says. -/
import Derived.Test.YtkidhbflojlmoaaGreatKit
import Derived.Deep.RegionHeld
import Derived.StillTail
namespace Go.Proofs.YtkidhbflojlmoaaGreat
open Go.RowKit Go

section
variable {P : Program} {ops : Array Oper} {Q : Exit → Act → World → Prop} {md : Region.Mode} {S : World → Prop} {n : Nat}
def wpAnyE (P : Program) (md : Region.Mode) (ops : Array Oper) (Q : Exit → Act → World → Prop) (S : World → Prop) (n : Nat) : Nat → Array Bool → Act → World → Prop
  | 0, listed, a, w => Region.ready md ops listed = [] ∧ Q .normal a w
  | fuel + 1, listed, a, w =>
    (Region.ready md ops listed = [] → Q .normal a w) ∧
    ∀ i ∈ Region.ready md ops listed, wpOp P ops Q i (fun a' w' => (i ≠ n → S w') ∧ wpAnyE P md ops Q S n fuel (listed.setIfInBounds i true) a' w') a w
theorem wpAny_of_except : ∀ (fuel : Nat) (listed : Array Bool) (a : Act) (w : World), wpAnyE P md ops Q S n fuel listed a w → wpAny P md ops Q fuel listed a w
  | 0, _, _, _, h => h
  | fuel + 1, _, _, _, h => ⟨h.1, fun i hi => wpOp_mono (fun a' w' h' => wpAny_of_except fuel _ a' w' h'.2) (h.2 i hi)⟩
theorem wpAnyE_first {i : Nat} {oi : Oper} {v : Value} (hi : ops[i]? = some oi) (hsel : ∀ (j : Nat) (o : Oper) cs b, ops[j]? = some o → o.op ≠ .select cs b)
    (hs : Region.sinkB md ops n = true) (hc : Region.chainB md ops n = true) (hn : n < ops.size) (hin : i < n) (hQ : ∀ c a w, Q (.panic c) (a.put oi.dst v) w → Q (.panic c) a w) :
    ∀ (fuel : Nat) (listed : Array Bool) (a : Act) (w : World), HeadInv md ops n listed →
      (∀ j oj, ops[j]? = some oj → j ≠ i → listed.getD j true = false → (∀ e ∈ oj.after, Region.binds md e = true → e.on ≠ i) → oi.apart ops oj = true) →
      i ∈ Region.ready md ops listed → YieldsIf P ops S oi v a → S w →
      wpAnyE P md ops Q S n fuel (listed.setIfInBounds i true) (a.put oi.dst v) w → wpAnyE P md ops Q S n (fuel + 1) listed a w := by
  intro fuel
  induction fuel with
  | zero =>
    intro listed a w _ _ hr hy hS H
    refine ⟨fun h => (by rw [h] at hr; cases hr), fun j hj => ?_⟩
    by_cases hji : j = i
    · subst hji; exact hy.wpOp hi hS ⟨fun _ => hS, H⟩
    · have := ready_mono hj hji
      rw [H.1] at this
      cases this
  | succ fuel ih =>
    intro listed a w inv hfree hr hy hS H
    have hun := (mem_ready.1 hr).1
    refine ⟨fun h => (by rw [h] at hr; cases hr), fun j hj => ?_⟩
    have hjn : j < n := Nat.lt_of_not_le fun h => tail_waits hs hc hn inv _ i rfl hin hun j h hj
    by_cases hji : j = i
    · subst hji; exact hy.wpOp hi hS ⟨fun _ => hS, H⟩
    · have h1 := H.2 j (ready_mono hj hji)
      obtain ⟨hjun, oj, hoj, hall⟩ := mem_ready.1 hj
      have hnot : ∀ e ∈ oj.after, Region.binds md e = true → e.on ≠ i := fun e he hb heq => by
        have h1 := hall e he hb
        rw [heq, getD_both hun] at h1
        cases h1
      have h2 := wpOp_putIf hoj (hfree j oj hoj hji hjun hnot) (fun cs b => hsel i oi cs b hi) (fun cs b => hsel j oj cs b hoj) hQ hy h1
      have hfree' : ∀ k ok, ops[k]? = some ok → k ≠ i → (listed.setIfInBounds j true).getD k true = false →
          (∀ e ∈ ok.after, Region.binds md e = true → e.on ≠ i) → oi.apart ops ok = true := fun k ok hk hki hun' hno => by
        refine hfree k ok hk hki ?_ hno
        by_cases hjk : j = k
        · subst hjk; exact hjun
        · rw [getD_set_ne true hjk] at hun'; exact hun'
      refine wpOp_mono (fun a' w' h3 => ⟨h3.2.1, ih (listed.setIfInBounds j true) a' w' (inv.set hj hjn) hfree' (ready_mono hr (Ne.symm hji)) h3.1 (h3.2.1 (by omega)) ?_⟩) h2
      rw [Array.setIfInBounds_comm _ _ hji]
      exact h3.2.2
/-- The quiet ones, then .. -/
def wpHeld (P : Program) (ops : Array Oper) (S : World → Prop) (L : Act → Prop) : List Oper → Act → Prop
  | [], a => L a
  | o :: l, a => ∃ v, YieldsIf P ops S o v a ∧ wpHeld P ops S L l (a.put o.dst v)
/-- .. the others. -/
def wpHeavy (P : Program) (ops : Array Oper) (Q : Exit → Act → World → Prop) (S : World → Prop) : List Oper → Act → World → Prop
  | [], a, w => Q .normal a w
  | o :: l, a, w => ∀ K' : Act → World → Prop, Shut (∀ a' w', (l ≠ [] → S w') → wpHeavy P ops Q S l a' w' → K' a' w') → if Region.wanted o (yielded ops a.tmps) = true then Oper.wp P o a w K' Q else K' (a.put o.dst undef) w
theorem wpHeld_step {L : Act → Prop} {o : Oper} {l : List Oper} {a : Act} (v : Value) (hg : o.guard = none) (h : ∀ w, S w → (execOp a.eval o).run P w = .ok (.value v) w) (hK : wpHeld P ops S L l (a.put o.dst v)) : wpHeld P ops S L (o :: l) a :=
  ⟨v, .inl ⟨by simp [Region.wanted, hg], h⟩, hK⟩
theorem wpHeld_nil {L : Act → Prop} {a : Act} (h : L a) : wpHeld P ops S L [] a := h
theorem wpHeavy_nil {a : Act} {w : World} (h : Q .normal a w) : wpHeavy P ops Q S [] a w := h
theorem wpHeavy_step {o : Oper} {l : List Oper} {a : Act} {w : World} (h : ∀ K' : Act → World → Prop, Shut (∀ a' w', (l ≠ [] → S w') → wpHeavy P ops Q S l a' w' → K' a' w') → if Region.wanted o (yielded ops a.tmps) = true then Oper.wp P o a w K' Q else K' (a.put o.dst undef) w) :
    wpHeavy P ops Q S (o :: l) a w := h
def heavyB (md : Region.Mode) (ops : Array Oper) (n : Nat) : List Nat → Array Bool → Bool
  | [], listed => (Region.ready md ops listed).isEmpty
  | i :: hs, listed => (Region.ready md ops listed == [i]) && (!hs.isEmpty || i == n) && heavyB md ops n hs (listed.setIfInBounds i true)
def headB (md : Region.Mode) (ops : Array Oper) (n : Nat) (hs : List Nat) : List Nat → Array Bool → Bool
  | [], listed => heavyB md ops n hs listed
  | i :: qs, listed => decide (i < n) && (Region.ready md ops listed).contains i && Region.free md ops listed i && headB md ops n hs qs (listed.setIfInBounds i true)
def AtIdx (ops : Array Oper) : List Nat → List Oper → Prop
  | [], [] => True
  | i :: is, o :: os => ops[i]? = some o ∧ AtIdx ops is os
  | _, _ => False
theorem wpAnyE_heavy : ∀ (hs : List Nat) (l : List Oper) (listed : Array Bool) (a : Act) (w : World), AtIdx ops hs l → heavyB md ops n hs listed = true → wpHeavy P ops Q S l a w → wpAnyE P md ops Q S n hs.length listed a w := by
  intro hs
  induction hs with
  | nil =>
    intro l listed a w hat hB h
    cases l with
    | nil => exact ⟨by simpa [heavyB] using hB, h⟩
    | cons o l => exact hat.elim
  | cons i hs ih =>
    intro l listed a w hat hB h
    cases l with
    | nil => exact hat.elim
    | cons o l =>
      simp only [heavyB, Bool.and_eq_true, beq_iff_eq] at hB
      obtain ⟨⟨hr, hl⟩, hB⟩ := hB
      refine ⟨fun h0 => absurd (hr.symm.trans h0) (by simp), fun j hj => ?_⟩
      rw [hr] at hj
      obtain rfl : j = i := by simpa using hj
      refine wpOp_step hat.1 fun K' hK => h K' fun a' w' hS hW => hK a' w' ⟨fun hne => hS fun hl0 => ?_, ih l _ a' w' hat.2 hB hW⟩
      subst hl0
      cases hs with
      | nil => simp at hl; exact hne hl
      | cons x xs => exact hat.2
theorem wpAnyE_head (hsel : Region.noSelect ops = true) (hs : Region.sinkB md ops n = true) (hc : Region.chainB md ops n = true) (hn : n < ops.size) (hQ : ∀ c a d v w, Q (.panic c) (a.put d v) w → Q (.panic c) a w) (hv : List Nat) (lh : List Oper) (hat2 : AtIdx ops hv lh) :
    ∀ (qs : List Nat) (l : List Oper) (listed : Array Bool) (a : Act) (w : World), AtIdx ops qs l → HeadInv md ops n listed → headB md ops n hv qs listed = true → S w → wpHeld P ops S (fun a' => wpHeavy P ops Q S lh a' w) l a → wpAnyE P md ops Q S n (hv.length + qs.length) listed a w := by
  intro qs
  induction qs with
  | nil =>
    intro l listed a w hat _ hB _ h
    cases l with
    | nil => exact wpAnyE_heavy hv lh listed a w hat2 hB h
    | cons o l => exact hat.elim
  | cons i qs ih =>
    intro l listed a w hat inv hB hS h
    cases l with
    | nil => exact hat.elim
    | cons o l =>
      simp only [headB, Bool.and_eq_true, decide_eq_true_eq] at hB
      obtain ⟨⟨⟨hin, hr⟩, hf⟩, hB⟩ := hB
      obtain ⟨v, hy, hK⟩ := h
      have hr' : i ∈ Region.ready md ops listed := by simpa using hr
      exact wpAnyE_first hat.1 (Region.noSelect_spec hsel) hs hc hn hin (fun c a w => hQ c a o.dst v w) _ listed a w inv (Region.free_spec hat.1 hf) hr' hy hS (ih l _ _ w hat.2 (inv.set hr' hin) hB hS hK)
end
def pickM {α : Type} : List Bool → List α → List α
  | true :: m, x :: l => x :: pickM m l
  | false :: m, _ :: l => pickM m l
  | _, _ => []
theorem pickM_yes {α : Type} (m : List Bool) (x : α) (l : List α) : pickM (true :: m) (x :: l) = x :: pickM m l := rfl
theorem pickM_no {α : Type} (m : List Bool) (x : α) (l : List α) : pickM (false :: m) (x :: l) = pickM m l := rfl
theorem pickM_nil {α : Type} (m : List Bool) : pickM m ([] : List α) = [] := by cases m with | nil => rfl | cons b m => cases b <;> rfl
theorem pickM_count {α : Type} : ∀ (m : List Bool) (l : List α), m.length = l.length → (pickM (m.map (!·)) l).length + (pickM m l).length = l.length
  | [], [], _ => rfl
  | b :: m, x :: l, h => by
    have ih := pickM_count m l (by simpa using h)
    cases b <;> simp only [List.map_cons, Bool.not_true, Bool.not_false, pickM, List.length_cons] <;> omega
  | [], _ :: _, h => by simp at h
  | _ :: _, [], h => by simp at h
theorem atIdx_pick {ops : Array Oper} : ∀ (m : List Bool) (l : List Oper) (s : Nat), m.length = l.length → (∀ j, j < l.length → l[j]? = ops[s + j]?) → AtIdx ops (pickM m (List.range' s l.length)) (pickM m l)
  | [], [], _, _, _ => trivial
  | b :: m, o :: l, s, h, hl => by
    have h0 : ops[s]? = some o := by simpa using (hl 0 (by simp)).symm
    have ih := atIdx_pick (ops := ops) m l (s + 1) (by simpa using h) (fun j hj => by have := hl (j + 1) (by simp; omega); simpa [Nat.add_assoc, Nat.add_comm 1 j] using this)
    rw [List.length_cons, List.range'_succ]
    cases b
    · exact ih
    · exact ⟨h0, ih⟩
  | [], _ :: _, _, h, _ => by simp at h
  | _ :: _, [], _, h, _ => by simp at h
def lastB (md : Region.Mode) (l : List Oper) (m : List Bool) : Bool :=
  Region.noSelect l.toArray && Region.sinkB md l.toArray (l.length - 1) && Region.chainB md l.toArray (l.length - 1) && decide (0 < l.length) && decide (m.length = l.length) &&
    headB md l.toArray (l.length - 1) (pickM (m.map (!·)) (List.range' 0 l.length)) (pickM m (List.range' 0 l.length)) (Array.replicate l.length false)
/-- The region's rule. m: which operations are quiet; the last is not. -/
theorem wp_region_last {P : Program} {id : Nat} {Q : Exit → Act → World → Prop} {a : Act} {w : World} {l : List Oper} (m : List Bool) (S : World → Prop) (hm : P.follows .mixedOrders = true) (hB : lastB .any l m = true) (hQ : ∀ c a d v w, Q (.panic c) (a.put d v) w → Q (.panic c) a w) (hS : S w.drew)
    (h : wpHeld P l.toArray S (fun a' => wpHeavy P l.toArray Q S (pickM (m.map (!·)) l) a' w.drew) (pickM m l) a) : (Code.region id l.toArray true).wp P Q a w := by
  simp only [lastB, Bool.and_eq_true, decide_eq_true_eq] at hB
  obtain ⟨⟨⟨⟨⟨hsel, hs⟩, hc⟩, h0⟩, hlen⟩, hB⟩ := hB
  have hl : ∀ j, j < l.length → l[j]? = l.toArray[0 + j]? := fun j _ => by simp
  have inv0 : HeadInv .any l.toArray (l.length - 1) (Array.replicate l.length false) :=
    ⟨by simp, fun j oj _ hl => (by rw [getD_replicate_false] at hl; cases hl), fun t _ ht => getD_in (by simpa using ht) (getD_replicate_false _ _)⟩
  have H := wpAnyE_head (md := .any) hsel hs hc (by simp; omega) hQ _ _ (atIdx_pick (m.map (!·)) l 0 (by simpa using hlen) hl) _ _ _ a w.drew (atIdx_pick m l 0 hlen hl) inv0 hB hS h
  refine wp_region_any hm ?_
  have hcount := pickM_count m (List.range' 0 l.length) (by simpa using hlen)
  rw [hcount, List.length_range'] at H
  have := wpAny_of_except _ _ _ _ H
  rwa [List.size_toArray]
end Go.Proofs.YtkidhbflojlmoaaGreat
