/- The calls that come in, with the form's bound on each text; the tree's depth said once. Conditions: as each theorem says. -/
import Derived.Test.YteoibolompiohaaIdxSi
import Derived.SizedLaws
namespace Go.Proofs.Yteoibolompiohaa
open Go.RowKit

section
open Go.WideShapes Go.ChangeShapes
theorem weightsAll_in {H : Type} {P : Program} {e : TypeId} : ∀ {l : List (DataW H)} {d : DataW H}, d ∈ l → ∀ n ∈ d.weights P e, n ∈ DataW.weightsAll P e l
  | d' :: r, d, hd, n, hn => by
    simp only [DataW.weightsAll, List.mem_append]
    rcases List.mem_cons.1 hd with rfl | h
    · exact Or.inl hn
    · exact Or.inr (weightsAll_in h n hn)
/-- A slice's reading gives its rows; each element's weights are in the bound. -/
theorem rows_of_trod_w {P : Program} {t e : TypeId} (ht : P.underlying t = some (.slice e)) {α : Type} {k R : Nat} {en : α → List Value} {ok : World → α → Prop} (hk : P.cellsOf e = k) (hk0 : 0 < k)
    {H : Type} {enc : TypeId × Value → H} {w : World}
    (hel : ∀ fuel cs x, DataW.trod enc P w 0 (fun _ => true) true fuel e cs = some x → (∀ n ∈ x.1.weights P e, n ≤ R) → ∃ y : α, cs = en y ∧ ok w y) (hlen : ∀ y, (en y).length = k)
    {a0 : Option Addr} {len cap : Nat} {fuel : Nat} {x : DataW H × List MemPlace} (hf : DataW.trod enc P w 0 (fun _ => true) true fuel t [.slice a0 len cap] = some x) (hR : ∀ n ∈ x.1.weights P t, n ≤ R) :
    ∃ (L : List α), L.length = len ∧ len ≤ cap ∧ cap ≤ maxLen ∧ RowsAt k en w (.slice a0 len cap) L ∧ ∀ y ∈ L, ok w y := by
  rcases Go.Deep.open_slice ht hf with ⟨hcs, _⟩ | ⟨a, len', cap', m, n, D, Pl, hcs, _, hl, hm, hmm, hxe, hx⟩
  · simp only [List.cons.injEq, Value.slice.injEq, and_true] at hcs
    obtain ⟨rfl, rfl, rfl⟩ := hcs
    exact ⟨[], rfl, by simp, by simp, ⟨none, 0, rfl, fun i hi => by simp at hi⟩, by simp⟩
  · simp only [List.cons.injEq, Value.slice.injEq, and_true] at hcs
    obtain ⟨rfl, rfl, rfl⟩ := hcs
    simp only [if_true] at hmm
    subst hmm
    have hD : ∀ i, i < len → ∀ n ∈ (D i).weights P e, n ≤ R := fun i hi n hn => hR n (by
      rw [hxe]
      simp only [DataW.weights, ht]
      exact List.mem_cons_of_mem _ (List.mem_append.2 (.inl (weightsAll_in (List.mem_map.2 ⟨i, List.mem_range.2 hi, rfl⟩) n hn))))
    obtain ⟨b, off, spot⟩ := a
    have each : ∀ i, i < len → ∃ y : α, ok w y ∧ (i = 0 → spot = none) ∧ w.rangeAt b (off + i * k) (en y) := by
      intro i hi
      obtain ⟨cs', h1, h2⟩ := hx i (by omega)
      rw [hk] at h1
      obtain ⟨_, hlen', hcell⟩ := World.cells?_some h1
      obtain ⟨y, rfl, hy⟩ := hel _ _ _ h2 (hD i hi)
      have e0 := hcell 0 (by omega)
      rw [Go.Deep.add_add] at e0
      have hsp : i = 0 → spot = none := by
        intro h0
        subst h0
        cases spot with
        | none => rfl
        | some x =>
          rw [List.getElem?_eq_getElem (by rw [hlen]; exact hk0)] at e0
          simp [World.cell?, Addr.add] at e0
          split at e0 <;> simp at e0
      have ha : ∀ j, (⟨b, off, spot⟩ : Addr).add (i * k + j) = ⟨b, off + i * k + j, none⟩ := by
        intro j
        by_cases hj : i * k + j = 0
        · have hik : i * k = 0 := by omega
          have hj0 : j = 0 := by omega
          have hi0 : i = 0 := by
            rcases Nat.mul_eq_zero.1 hik with h | h
            · exact h
            · omega
          rw [hsp hi0, hi0, hj0]; simp [Addr.add]
        · unfold Addr.add; rw [if_neg hj]; simp; omega
      refine ⟨y, hy, hsp, fun j v hj => ?_⟩
      have hlt : j < k := by rw [← hlen y]; exact (List.getElem?_eq_some_iff.1 hj).1
      have := hcell j hlt
      rw [Go.Deep.add_add, ha] at this
      rw [this]
      exact hj
    by_cases h00 : len = 0
    · exact ⟨[], h00.symm, hl, hm, ⟨_, _, by rw [h00]; rfl, fun i hi => by simp at hi⟩, by simp⟩
    obtain ⟨y0, _⟩ := each 0 (by omega)
    haveI : Inhabited α := ⟨y0⟩
    obtain ⟨q, hq⟩ := Go.Deep.choose_lt each
    have hL : ((List.range len).map q).length = len := by simp
    refine ⟨(List.range len).map q, hL, hl, hm, ⟨some ⟨b, off, spot⟩, _, by rw [hL], fun i hi => ?_⟩, fun y hy => ?_⟩
    · rw [hL] at hi
      obtain ⟨_, _, hc⟩ := hq i hi
      have hs := (hq 0 (by omega)).2.1 rfl
      refine ⟨b, off, by rw [hs], ?_⟩
      simpa using hc
    · obtain ⟨i, hi, rfl⟩ := List.mem_map.1 hy
      exact (hq i (List.mem_range.1 hi)).1
variable {H : Type} {enc : TypeId × Value → H} {w : World}
set_option maxRecDepth 100000 in
theorem iop_cells_w {fuel : Nat} {cs : List Value} {x : DataW H × List MemPlace} (h : DataW.trod enc Try.prog w 0 (fun _ => true) true fuel IopT cs = some x) (hR : ∀ n ∈ x.1.weights Try.prog IopT, n ≤ reachBytes) : ∃ y : Opr, cs = oprCells y ∧ y.key.length ≤ reachBytes := by
  obtain ⟨xs, n, _, hx, hl, hlen, hg⟩ := DataW.trod_struct Try.underlying29 h
  rw [ciop] at hl
  match cs, hl, xs, hlen, hx with
  | [c0, c1, c2], _, [y0, y1, y2], _, hx =>
    obtain ⟨a, e0, x0, _⟩ := DataW.trod_int Try.underlying3 (by simpa using hg 0 _ rfl)
    obtain ⟨b, e1, x1, l1⟩ := DataW.trod_string Try.underlying9 (by simpa using hg 1 _ rfl)
    obtain ⟨c, e2, x2, _⟩ := DataW.trod_int Try.underlying3 (by simpa using hg 2 _ rfl)
    rw [cii] at e0 e2
    rw [cis] at e1
    simp at e0 e1 e2
    subst e0 e1 e2
    refine ⟨⟨a, b.data.toList, c⟩, by simp only [oprCells, bs_of], hR _ ?_⟩
    rw [hx]
    simp only [List.map_cons, x0, x1, x2, DataW.weights, Try.underlying29]
    simp [DataW.weightsEach, DataW.weights]
end
def IsIopsW (w : World) (v : Value) : Prop := IsRows 3 oprCells (fun _ o => o.key.length ≤ reachBytes) w v
set_option maxRecDepth 100000 in
open Go.WideShapes Go.ChangeShapes in
theorem open_iops_w {H : Type} {enc : TypeId × Value → H} {w : World} {r : Reach} {base : Nat} {v : Value} {d : DataW H} {p : List MemPlace}
    (hv : Value.okWide Try.prog w r base 22 v) (h : DataW.Trod enc Try.prog w 0 (fun _ => true) true 22 v d p) (hR : ∀ n ∈ d.weights Try.prog 22, n ≤ reachBytes) : IsIopsW w v := by
  obtain ⟨a0, len, cap, rfl⟩ := okWide_slice Try.underlying22 hv
  obtain ⟨fuel, hf⟩ := h
  obtain ⟨L, hL, h1, h2, h3, h4⟩ := rows_of_trod_w (w := w) (R := reachBytes) Try.underlying22 ciop (by decide) (en := oprCells) (ok := fun _ (o : Opr) => o.key.length ≤ reachBytes) (fun _ _ _ h hR => iop_cells_w h hR) (fun _ => rfl) (by simpa [Value.cells] using hf) hR
  exact ⟨L, a0, cap, by rw [hL], by rw [hL]; exact h1, h2, h3, h4⟩
/-- What a tree behind calls has came with them. -/
theorem run_mem {L : List Opr} : ∀ {i : Nat} {p : Pr}, p ∈ runC L i → ∃ o ∈ L, p.1 = o.key := by
  intro i
  induction i with
  | zero => intro p h; rw [runC_zero] at h; simp at h
  | succ i ih =>
    intro p h
    by_cases hi : i < L.length
    · rw [runC_succ L i hi] at h
      unfold stepC at h
      split at h
      · exact ih (del_mem h)
      · split at h
        · exact ih h
        · rcases ins_mem h with rfl | h
          · exact ⟨L[i], List.getElem_mem hi, rfl⟩
          · exact ih h
    · unfold runC at h ih
      rw [List.take_of_length_le (by omega)] at h ih
      exact ih h
section
variable {m : Mem} {w : World} {B hi : Nat} {C : List Pr}
/-- The depth, said once for all calls. -/
theorem tree_depth_of (h : Tree B hi m C w) : ∃ d : Nat, d ≤ 3 ∧ (d ≠ 0 → 2 * 5 ^ d ≤ C.length + 1) ∧ C.length + 1 ≤ 10 ^ (d + 1) ∧ Calls Try.prog 26 #[ptrV m.g] w fun e w' => e = .returned (.int .i64 ((d + 1 : Nat) : Int)) ∧ w = w' := by
  obtain ⟨⟨t, d, h1, h2, h3, rfl⟩, h5, h6⟩ := h
  obtain ⟨n1, n2, n3⟩ := wf_nodes h2 h6
  refine ⟨d, h3, fun hd => ?_, high_pow d t.root h2.good.ok, depth_any h1 (by omega) d h2.good.ok (by omega)⟩
  cases d with
  | zero => exact absurd rfl hd
  | succ d => exact root_pow h2.good.ok (h2.top (by omega))
end
end Go.Proofs.Yteoibolompiohaa
