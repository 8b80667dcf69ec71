/- The law of a node that is alone: what the walk needs, plainly; how a list of bools that came in is opened. Conditions: as each theorem says. -/
import Derived.Test.YtkidhbflojlmoaaZabW
import Derived.Test.YtkidhbflojlmoaaOpen
import Derived.ChangeArms
namespace Go.Proofs.Ytkidhbflojlmoaa
open Go.RowKit

theorem findN_all (L : List Ent) (t : Int × Int) (h : ∀ x ∈ L, lessZ t x.z = false) : findN L t = L.length := by
  rcases Nat.lt_or_ge (findN L t) L.length with hl | hl
  · have := findN_at L t hl
    rw [h _ (List.getElem_mem hl)] at this
    cases this
  · exact Nat.le_antisymm (findN_le L t) hl
theorem Steps.less {L : List Ent} (h : Steps L) (i : Nat) (hi : i + 1 < L.length) : lessZ L[i].z L[i + 1].z = true := by
  rw [lessZ_iff]
  rcases h i hi with e | e
  · rw [e]; right; exact ⟨rfl, by show L[i].c < L[i].c + 1; omega⟩
  · rw [e]; left; show L[i].e < L[i].e + 1; omega
theorem Steps.up {L : List Ent} (h : Steps L) (i : Nat) : ∀ (d : Nat) (hd : i + d + 1 < L.length), lessZ L[i].z (L[i + d + 1]'hd).z = true
  | 0, hd => h.less i hd
  | d + 1, hd => lessZ_trans (h.up i d (by omega)) (h.less (i + d + 1) hd)
theorem Steps.lt {L : List Ent} (h : Steps L) (i j : Nat) (hj : j < L.length) (hij : i < j) : lessZ L[i].z L[j].z = true := by
  have := h.up i (j - i - 1) (by omega)
  have e : i + (j - i - 1) + 1 = j := by omega
  simp only [e] at this
  exact this
theorem Steps.find {L : List Ent} (h : Steps L) (i : Nat) (hi : i < L.length) : findN L L[i].z = i + 1 ∧ findB L L[i].z = true := by
  have h1 : findN L L[i].z = i + 1 := by
    rcases Nat.lt_trichotomy (findN L L[i].z) (i + 1) with hl | hl | hl
    · have hn : findN L L[i].z < L.length := by omega
      have := findN_at L L[i].z hn
      rcases Nat.lt_or_ge (findN L L[i].z) i with hk | hk
      · rw [lessZ_asymm (h.lt _ i hi hk)] at this
        cases this
      · have he : findN L L[i].z = i := by omega
        simp only [he] at this
        rw [lessZ_irrefl] at this
        cases this
    · exact hl
    · have hl2 := findN_le L L[i].z
      have := findN_below L L[i].z (i + 1) (by omega) hl
      rw [h.lt i (i + 1) (by omega) (by omega)] at this
      cases this
  refine ⟨h1, ?_⟩
  rw [findB_of L L[i].z i h1 hi]
  simp
theorem Al.mono {n : Nd} {L : List Ent} {K K' : Nat} (h : Al n L K) (hk : K ≤ K') : Al n L K' :=
  { h with acc1 := by have := h.acc1; omega }
set_option maxRecDepth 100000 in
theorem run_neq_z (x y : Int × Int) (W : World) : (binOp .neq 29 (.agg #[.int .i64 x.1, .int .i64 x.2]) (.agg #[.int .i64 y.1, .int .i64 y.2])).run Try.prog W = .ok (.bool (!decide (x = y))) W := by
  obtain ⟨a0, a1⟩ := x
  obtain ⟨b0, b1⟩ := y
  go_simp
  by_cases h0 : a0 = b0 <;> by_cases h1 : a1 = b1 <;> simp [h0, h1]
def boolCells (b : Bool) : List Value := [.bool b]
def IsBools (w : World) (v : Value) : Prop := IsRows 1 boolCells (fun _ _ => True) w v
set_option maxRecDepth 100000 in
theorem cb : Try.prog.cellsOf 4 = 1 := by kernel_rfl
set_option maxRecDepth 100000 in
open Go.WideShapes Go.ChangeShapes in
theorem open_bools {H : Type} {enc : TypeId × Value → H} {w : World} {r : Reach} {base : Nat} {v : Value} {d : DataW H} {p : List MemPlace}
    (hv : Value.okWide Try.prog w r base 23 v) (h : DataW.Trod enc Try.prog w 0 (fun _ => true) true 23 v d p) : IsBools w v :=
  open_rows Try.underlying23 cb (by decide) (fun _ _ _ h => by obtain ⟨y, hy, _⟩ := DataW.trod_bool Try.underlying4 h; exact ⟨y, hy, trivial⟩) (fun _ => rfl) hv h
end Go.Proofs.Ytkidhbflojlmoaa
