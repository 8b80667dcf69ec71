/- The contract of the reference's Take. Conditions: as each theorem says. -/
import Derived.Test.YtaahbfcnccmcoaaVoteRm
import Derived.Test.YtaahbfcnccmcoaaVoteRw
namespace Go.Proofs.Ytaahbfcnccmcoaa
open Go.RowKit

def takeR (r : Rp) (f : Nat) (v : Vot) : Rp × Int :=
  if v.state ≠ 1 then (setWh (setSt r f v.state) f v.b.l, 0)
  else if v.round < r.round then (setSt r f 0, 1)
  else if r.round < v.round then (moreR r f v.b v.round (betterB v.b r.own), 2)
  else (sameR r f v.b (betterB v.b r.now), sameN (betterB v.b r.now))
def stepR (r : Rp) (n : Int) (v : Vot) : Rp × Int := if okR r n v then takeR r n.toNat v else (r, 0)
section
variable {F : Nat → Prop} {g : Nat} {r : Rp} {w : World}
theorem RpIn.grew {w' : World} (h : RpIn F g r w) (hb : Below w.heap.size w w') : RpIn (Foot F w w') g r w' := by
  obtain ⟨bt, bw, bs, bh, h⟩ := h
  refine ⟨bt, bw, bs, bh, (h.grew hb).mono (fun i hi => .inl hi) (fun i hi => ?_)⟩
  rcases hi with hi | hi
  · have := h.lt i hi
    have := hb.size
    omega
  · exact hi.2
/-- THE CONTRACT OF the reference's Take. -/
theorem rtake_any (h : RpIn F g r w) (hf : r.fit) (n : Int) (v : Vot) : Calls Try.prog 34 #[ptrV g, .int .i64 n, msgV v] w (RDone F g (stepR r n v).1 (.int .i64 (stepR r n v).2) w) := by
  unfold stepR
  by_cases hk : okR r n v
  · rw [if_pos hk]
    obtain ⟨k, rfl⟩ : ∃ k : Nat, n = (k : Int) := ⟨n.toNat, by have := hk.1; omega⟩
    rw [Int.toNat_natCast]
    unfold takeR
    by_cases hs : v.state ≠ 1
    · rw [if_pos hs]
      exact rtake_dec h hf k v hk hs
    · rw [if_neg hs]
      obtain ⟨b, m, s⟩ := v
      obtain rfl : s = 1 := by simpa using hs
      by_cases hr : m < r.round
      · rw [if_pos hr]
        exact rtake_old h hf k b m hk hr
      · rw [if_neg hr]
        by_cases hr2 : r.round < m
        · rw [if_pos hr2]
          exact rtake_more h hf k b m hk (Lib.hid hr2) _ (Lib.hid rfl)
        · rw [if_neg hr2]
          exact rtake_same h hf k b m hk (Lib.hid (by omega)) _ (Lib.hid rfl)
  · rw [if_neg hk]
    refine (rtake_bad h n v hk).mono ?_
    rintro e w' ⟨he, hb⟩
    exact ⟨he, h.grew hb, Apart.of_below hb⟩
end
/-! The simulation, in plain Lean. -/
structure Sim (p : Poll) (r : Rp) : Prop where
  me : r.me = p.me
  nodes : r.nodes = p.nodes
  own : r.own = p.own
  round : r.round = p.round
  now : r.now = p.now
  told : ∀ i, i < p.nodes → p.told.getD i (false, zeroBal) = (r.told.getD i false, r.what.getD i zeroBal)
  dec : ∀ i, i < p.nodes → (p.dec.getD i (0, 0)).2 = r.state.getD i 0 ∧ (r.state.getD i 0 ≠ 0 → (p.dec.getD i (0, 0)).1 = r.whom.getD i 0)
theorem getD_set {α : Type} (l : List α) (i j : Nat) (x d : α) (hi : i < l.length) : (l.set i x).getD j d = if i = j then x else l.getD j d := by
  rw [List.getD_eq_getElem?_getD, List.getElem?_set]
  by_cases h : i = j
  · subst h
    rw [if_pos rfl, if_pos rfl, if_pos hi]; rfl
  · rw [if_neg h, if_neg h, List.getD_eq_getElem?_getD]
theorem getD_rep {α : Type} (n i : Nat) (x : α) : (List.replicate n x).getD i x = x := by
  rw [List.getD_eq_getElem?_getD, List.getElem?_replicate]
  split <;> rfl
section
variable {p : Poll} {r : Rp}
theorem Sim.voted (h : Sim p r) (hp : p.fit) (hr : r.fit) (b : Bal) : Sim { p with now := b, told := p.told.set p.me (true, b) } (voteR r b) := by
  refine ⟨h.me, h.nodes, h.own, h.round, rfl, fun i hi => ?_, h.dec⟩
  have hi : i < p.nodes := hi
  have h1 := h.told i hi
  have := hp.me
  have := hp.nodes7
  have := hp.told
  have := hr.told
  have := hr.what
  have := h.nodes
  have := h.me
  show (p.told.set p.me (true, b)).getD i _ = ((r.told.set r.me true).getD i _, (r.what.set r.me b).getD i _)
  rw [getD_set _ _ _ _ _ (by omega), getD_set _ _ _ _ _ (by omega), getD_set _ _ _ _ _ (by omega), h.me, h1]
  by_cases e : p.me = i
  · rw [if_pos e, if_pos e, if_pos e]
  · rw [if_neg e, if_neg e, if_neg e]
theorem Sim.tell (h : Sim p r) (hp : p.fit) (hr : r.fit) (f : Nat) (hf : f < p.nodes) (b : Bal) : Sim { p with told := p.told.set f (true, b) } (tellR r f b) := by
  refine ⟨h.me, h.nodes, h.own, h.round, h.now, fun i hi => ?_, h.dec⟩
  have hi : i < p.nodes := hi
  have h1 := h.told i hi
  have := hp.nodes7
  have := hp.told
  have := hr.told
  have := hr.what
  have := h.nodes
  show (p.told.set f (true, b)).getD i _ = ((r.told.set f true).getD i _, (r.what.set f b).getD i _)
  rw [getD_set _ _ _ _ _ (by omega), getD_set _ _ _ _ _ (by omega), getD_set _ _ _ _ _ (by omega), h1]
  by_cases e : f = i
  · rw [if_pos e, if_pos e, if_pos e]
  · rw [if_neg e, if_neg e, if_neg e]
theorem Sim.decided (h : Sim p r) (hp : p.fit) (hr : r.fit) (f : Nat) (hf : f < p.nodes) (l s : Int) : Sim { p with dec := p.dec.set f (l, s) } (setWh (setSt r f s) f l) := by
  refine ⟨h.me, h.nodes, h.own, h.round, h.now, h.told, fun i hi => ?_⟩
  have hi : i < p.nodes := hi
  have h1 := h.dec i hi
  have := hp.nodes7
  have := hp.dec
  have := hr.state
  have := hr.whom
  have := h.nodes
  show ((p.dec.set f (l, s)).getD i _).2 = (r.state.set f s).getD i _ ∧ ((r.state.set f s).getD i _ ≠ 0 → ((p.dec.set f (l, s)).getD i _).1 = (r.whom.set f l).getD i _)
  rw [getD_set _ _ _ _ _ (by omega), getD_set _ _ _ _ _ (by omega), getD_set _ _ _ _ _ (by omega)]
  by_cases e : f = i
  · rw [if_pos e, if_pos e, if_pos e]; exact ⟨rfl, fun _ => rfl⟩
  · rw [if_neg e, if_neg e, if_neg e]; exact h1
theorem Sim.undecided (h : Sim p r) (hp : p.fit) (hr : r.fit) (f : Nat) (hf : f < p.nodes) : Sim { p with dec := p.dec.set f (0, 0) } (setSt r f 0) := by
  refine ⟨h.me, h.nodes, h.own, h.round, h.now, h.told, fun i hi => ?_⟩
  have hi : i < p.nodes := hi
  have h1 := h.dec i hi
  have := hp.nodes7
  have := hp.dec
  have := hr.state
  have := h.nodes
  show ((p.dec.set f (0, 0)).getD i _).2 = (r.state.set f 0).getD i _ ∧ ((r.state.set f 0).getD i _ ≠ 0 → ((p.dec.set f (0, 0)).getD i _).1 = r.whom.getD i _)
  rw [getD_set _ _ _ _ _ (by omega), getD_set _ _ _ _ _ (by omega)]
  by_cases e : f = i
  · rw [if_pos e, if_pos e]; exact ⟨rfl, fun h => absurd rfl h⟩
  · rw [if_neg e, if_neg e]; exact h1
theorem Sim.fresh (h : Sim p r) (hp : p.fit) (hr : r.fit) (n : Int) : Sim (freshP p n) (freshR r n) := by
  have h0 : Sim { p with round := n, told := noTold } { r with round := n, told := List.replicate r.nodes false, what := List.replicate r.nodes zeroBal } := by
    refine ⟨h.me, h.nodes, h.own, rfl, h.now, fun i hi => ?_, h.dec⟩
    show noTold.getD i _ = _
    unfold noTold
    rw [getD_rep, getD_rep, getD_rep]
  have k := h0.voted ⟨hp.nodes1, hp.nodes7, hp.me, by simp [noTold], hp.dec⟩ (fresh_fitR r hr n) p.own
  have e1 : freshP p n = { p with round := n, told := noTold.set p.me (true, p.own), now := p.own } := rfl
  have e2 : freshR r n = voteR { r with round := n, told := List.replicate r.nodes false, what := List.replicate r.nodes zeroBal } p.own := by
    unfold freshR
    rw [show r.own = p.own from h.own]
  rw [e1, e2]
  exact k
theorem okR_iff (h : Sim p r) (n : Int) (v : Vot) : okR r n v ↔ okV p n v := by
  unfold okR okV nodeB
  rw [h.nodes, h.me]
  simp only [Bool.and_eq_true, decide_eq_true_eq]
  omega
theorem Sim.step (h : Sim p r) (hp : p.fit) (hr : r.fit) (n : Int) (v : Vot) : Sim (stepP p n v).1 (stepR r n v).1 ∧ (stepP p n v).2 = (stepR r n v).2 := by
  unfold stepP stepR
  by_cases hk : okV p n v
  · rw [if_pos hk, if_pos ((okR_iff h n v).2 hk)]
    obtain ⟨k, rfl, h1, h2⟩ := okV_nat hk
    rw [Int.toNat_natCast]
    unfold takeP takeR
    by_cases hs : v.state ≠ 1
    · rw [if_pos hs, if_pos hs]
      exact ⟨h.decided hp hr k h1 _ _, rfl⟩
    · rw [if_neg hs, if_neg hs, h.round]
      have hu := h.undecided hp hr k h1
      have hpu : ({ p with dec := p.dec.set k (0, 0) } : Poll).fit := ⟨hp.nodes1, hp.nodes7, hp.me, hp.told, by simp [hp.dec]⟩
      have hru := setSt_fit r hr k 0
      by_cases hq : v.round < p.round
      · rw [if_pos hq, if_pos hq]
        exact ⟨hu, rfl⟩
      · rw [if_neg hq, if_neg hq]
        by_cases hq2 : p.round < v.round
        · rw [if_pos hq2, if_pos hq2, h.own]
          have hff := hu.fresh hpu hru v.round
          have hpf : (freshP { p with dec := p.dec.set k (0, 0) } v.round).fit := ⟨hp.nodes1, hp.nodes7, hp.me, by simp [freshP, noTold], by simp [freshP, hp.dec]⟩
          have hrf := freshR_fit _ hru v.round
          by_cases hb : betterB v.b p.own = true
          · rw [if_pos hb, hb]
            refine ⟨?_, rfl⟩
            have k1 := (hff.voted hpf hrf v.b).tell ⟨hp.nodes1, hp.nodes7, hp.me, by simp [freshP, noTold], by simp [freshP, hp.dec]⟩ (vote_fitR _ hrf v.b) k h1 v.b
            have e : ((freshP { p with dec := p.dec.set k (0, 0) } v.round).told.set k (true, v.b)).set p.me (true, v.b) = ((freshP { p with dec := p.dec.set k (0, 0) } v.round).told.set p.me (true, v.b)).set k (true, v.b) := List.set_comm _ _ h2
            show Sim { freshP { p with dec := p.dec.set k (0, 0) } v.round with now := v.b, told := ((freshP { p with dec := p.dec.set k (0, 0) } v.round).told.set k (true, v.b)).set p.me (true, v.b) } _
            rw [e]
            exact k1
          · have hb' : betterB v.b p.own = false := by simpa using hb
            rw [if_neg hb, hb']
            exact ⟨hff.tell hpf hrf k h1 v.b, rfl⟩
        · rw [if_neg hq2, if_neg hq2, h.now]
          have ht := hu.tell hpu hru k h1 v.b
          by_cases hb : betterB v.b p.now = true
          · rw [if_pos hb, hb]
            exact ⟨ht.voted ⟨hp.nodes1, hp.nodes7, hp.me, by simp [hp.told], by simp [hp.dec]⟩ (tellR_fit _ hru k v.b) v.b, rfl⟩
          · have hb' : betterB v.b p.now = false := by simpa using hb
            rw [if_neg hb, hb']
            exact ⟨ht, rfl⟩
  · rw [if_neg hk, if_neg (fun e => hk ((okR_iff h n v).1 e))]
    exact ⟨h, rfl⟩
theorem Sim.begin (h : Sim p r) (hp : p.fit) (hr : r.fit) : Sim (beginP p) (beginR r) := by
  have k := h.fresh hp hr (p.round + 1)
  have e : beginR r = { freshR r (p.round + 1) with state := List.replicate r.nodes 0, whom := List.replicate r.nodes 0 } := by unfold beginR; rw [h.round]
  rw [e]
  refine ⟨k.me, k.nodes, k.own, k.round, k.now, k.told, fun i hi => ?_⟩
  show (noDec.getD i _).2 = (List.replicate r.nodes 0).getD i 0 ∧ ((List.replicate r.nodes 0).getD i 0 ≠ 0 → (noDec.getD i _).1 = (List.replicate r.nodes 0).getD i 0)
  unfold noDec
  rw [getD_rep, getD_rep]
  exact ⟨rfl, fun _ => rfl⟩
theorem stepR_fit (hr : r.fit) (n : Int) (v : Vot) : (stepR r n v).1.fit := by
  unfold stepR
  split
  · unfold takeR
    split
    · exact setWh_fit _ (setSt_fit r hr _ _) _ _
    · split
      · exact setSt_fit r hr _ _
      · split
        · unfold moreR
          split
          · exact tellR_fit _ (vote_fitR _ (freshR_fit _ (setSt_fit r hr _ _) _) _) _ _
          · exact tellR_fit _ (freshR_fit _ (setSt_fit r hr _ _) _) _ _
        · unfold sameR
          split
          · exact vote_fitR _ (tellR_fit _ (setSt_fit r hr _ _) _ _) _
          · exact tellR_fit _ (setSt_fit r hr _ _) _ _
  · exact hr
theorem Sim.new (me nodes : Nat) (b : Bal) (h1 : 1 ≤ nodes) (h7 : nodes ≤ 7) (hm : me < nodes) : Sim (newP me nodes b) (newR me nodes b) := by
  have h0 : Sim ⟨me, nodes, b, 0, zeroBal, noTold, noDec⟩ (rawR me nodes b) := by
    refine ⟨rfl, rfl, rfl, rfl, rfl, fun i hi => ?_, fun i hi => ?_⟩
    · show noTold.getD i _ = ((List.replicate nodes false).getD i _, (List.replicate nodes zeroBal).getD i _)
      unfold noTold
      rw [getD_rep, getD_rep, getD_rep]
    · show (noDec.getD i _).2 = (List.replicate nodes 0).getD i 0 ∧ ((List.replicate nodes 0).getD i 0 ≠ 0 → (noDec.getD i _).1 = (List.replicate nodes 0).getD i 0)
      unfold noDec
      rw [getD_rep, getD_rep]
      exact ⟨rfl, fun _ => rfl⟩
  exact h0.fresh ⟨h1, h7, hm, rfl, rfl⟩ (rawR_fit me nodes b h1 h7 hm) 0
theorem countP_range_take {α : Type} (l : List α) (d : α) (q : α → Bool) (k : Nat) (hk : k ≤ l.length) : (l.take k).countP q = (List.range k).countP fun i => q (l.getD i d) := by
  induction k with
  | zero => simp
  | succ k ih =>
    rw [List.take_succ_eq_append_getElem (by omega), List.range_succ, List.countP_append, List.countP_append, ih (by omega)]
    simp [List.countP_cons, List.getD_eq_getElem?_getD, List.getElem?_eq_getElem (show k < l.length by omega)]
theorem Sim.won (h : Sim p r) (hp : p.fit) : wonR r = wonG p := by
  have hv : votesR r r.nodes = votesN p p.nodes := by
    have := hp.nodes7
    have := hp.told
    unfold votesR votesN
    rw [countP_range_take p.told (false, zeroBal) _ _ (by omega), h.nodes]
    refine List.countP_congr (fun i hi => ?_)
    have := h.told i (List.mem_range.1 hi)
    unfold voteQ
    rw [this, h.now]
    simp only [Bool.and_eq_true, decide_eq_true_eq, Prod.mk.injEq]
  have hl : ∀ i, i < p.nodes → leadsR r i = leadsB p i := by
    intro i hi
    have hd := h.dec i hi
    have hfo : folR r (i : Int) r.nodes = fol p.dec (i : Int) p.nodes := by
      have := hp.nodes7
      have := hp.dec
      unfold folR fol
      rw [countP_range_take p.dec (0, 0) _ _ (by omega), h.nodes]
      refine List.countP_congr (fun k hk => ?_)
      have hdk := h.dec k (List.mem_range.1 hk)
      unfold folQ
      simp only [Bool.and_eq_true, decide_eq_true_eq]
      constructor
      · rintro ⟨a, b⟩
        exact ⟨by rw [hdk.1]; exact a, by rw [hdk.2 a]; exact b⟩
      · rintro ⟨a, b⟩
        rw [hdk.1] at a
        exact ⟨a, by rw [← hdk.2 a]; exact b⟩
    unfold leadsR leadsB
    rw [hfo, h.nodes]
    congr 1
    rw [Bool.eq_iff_iff]
    simp only [Bool.and_eq_true, decide_eq_true_eq]
    constructor
    · rintro ⟨a, b⟩
      have h2 := hd.2 (by rw [a]; decide)
      exact Prod.ext (by rw [h2]; exact b) (by rw [hd.1]; exact a)
    · intro e
      have e1 : (p.dec.getD i (0, 0)).1 = (i : Int) := by rw [e]
      have e2 : (p.dec.getD i (0, 0)).2 = 3 := by rw [e]
      have a : r.state.getD i 0 = 3 := by rw [← hd.1]; exact e2
      exact ⟨a, by rw [← hd.2 (by rw [a]; decide)]; exact e1⟩
  unfold wonR wonG
  rw [hv, h.nodes, h.now]
  have hfi : ∀ (n : Nat), n ≤ p.nodes → (List.range n).find? (leadsR r) = (List.range n).find? (leadsB p) := by
    intro n
    induction n with
    | zero => intro _; rfl
    | succ n ih =>
      intro hn
      rw [List.range_succ, List.find?_append, List.find?_append, ih (by omega)]
      simp only [List.find?_cons, List.find?_nil, hl n (by omega)]
  rw [hfi p.nodes (Nat.le_refl _)]
  rfl
theorem Sim.vote (h : Sim p r) : voteOfR r = voteOf p := by unfold voteOfR voteOf; rw [h.now, h.round]
/-- Who is decided for stays a node. -/
theorem step_fitD (hp : p.fit) (hD : fitD p) (n : Int) (v : Vot) : fitD (stepP p n v).1 := by
  have hs : ∀ k (d : Int × Int), (d.2 ≠ 0 → 0 ≤ d.1 ∧ d.1 < 7) → ∀ i (hi : i < (p.dec.set k d).length), (p.dec.set k d)[i].2 ≠ 0 → 0 ≤ (p.dec.set k d)[i].1 ∧ (p.dec.set k d)[i].1 < 7 := by
    intro k d hd i hi h0
    rw [List.getElem_set] at h0 ⊢
    split at h0
    · rename_i e; rw [if_pos e]; exact hd h0
    · rename_i e; rw [if_neg e]; exact hD i (by simpa using hi) h0
  unfold stepP
  by_cases hk : okV p n v
  · rw [if_pos hk]
    have hl : 0 ≤ v.b.l ∧ v.b.l < 7 := by
      have h3 := hk.2.2.1
      unfold nodeB at h3
      rw [Bool.and_eq_true] at h3
      have a := of_decide_eq_true h3.1
      have b := of_decide_eq_true h3.2
      have := hp.nodes7
      omega
    unfold takeP
    split
    · exact hs _ _ (fun _ => hl)
    · split
      · exact hs _ _ (fun h => absurd rfl h)
      · split
        · split
          · exact hs _ _ (fun h => absurd rfl h)
          · exact hs _ _ (fun h => absurd rfl h)
        · split
          · exact hs _ _ (fun h => absurd rfl h)
          · exact hs _ _ (fun h => absurd rfl h)
  · rw [if_neg hk]; exact hD
theorem begin_fitD (p : Poll) : fitD (beginP p) := by
  intro i hi h0
  have : (beginP p).dec = noDec := rfl
  simp only [this] at h0
  unfold noDec at h0
  rw [List.getElem_replicate] at h0
  exact absurd rfl h0
theorem new_fitD (me nodes : Nat) (b : Bal) : fitD (newP me nodes b) := by
  intro i hi h0
  have : (newP me nodes b).dec = noDec := rfl
  simp only [this] at h0
  unfold noDec at h0
  rw [List.getElem_replicate] at h0
  exact absurd rfl h0
end
end Go.Proofs.Ytaahbfcnccmcoaa
