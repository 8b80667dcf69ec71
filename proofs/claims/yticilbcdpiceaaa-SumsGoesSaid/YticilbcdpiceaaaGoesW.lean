/- The walk of the law SumsGoes, and how its table is read. Conditions: none. -/
import Derived.Test.YticilbcdpiceaaaTable
import Derived.OpenShut
import Derived.Test.YticilbcdpiceaaaQuiet
namespace Go.Proofs.Yticilbcdpiceaaa
open Go.RowKit

/-- What is known of a table that came in. -/
def IsTab (v : Value) : Prop := ∃ T : Array Value, v = .agg T ∧ T.size = 256 ∧ ∃ t : Nat → Nat, (∀ i, i < 256 → T[i]? = some (.int .u32 (t i : Nat))) ∧ ∀ i, i < 256 → t i < 4294967296

theorem okWide_array {P : Program} {w : World} {r : Reach} {base : Nat} {t e : TypeId} {n : Nat} {v : Value} (ht : P.underlying t = some (.array n e)) (h : Value.okWide P w r base t v) : ∃ cs, v = .agg cs ∧ cs.size = P.cellsOf t := by
  simp only [Value.okWide, ht] at h
  obtain ⟨cs, h1, h2, _⟩ := h
  exact ⟨cs, h1, h2⟩
theorem cells23 : Try.prog.cellsOf 23 = 256 := by kernel_rfl
theorem cells22 : Try.prog.cellsOf 22 = 1 := by kernel_rfl
theorem open_tab {H : Type} {enc : TypeId × Value → H} {w : World} {r : Reach} {base : Nat} {v : Value} {d : DataW H} {p : List MemPlace}
    (hv : Value.okWide Try.prog w r base 23 v) (h : DataW.Trod enc Try.prog w 0 (fun _ => true) true 23 v d p) : IsTab v := by
  obtain ⟨T, rfl, hT⟩ := okWide_array Try.underlying23 hv
  rw [cells23] at hT
  obtain ⟨fuel, hf⟩ := h
  obtain ⟨xs, m, _, _, hl, hn, hi⟩ := DataW.trod_array Try.underlying23 hf
  rw [cells22] at hi
  have hat : ∀ i, i < 256 → ∃ n : Nat, T[i]? = some (.int .u32 (n : Int)) ∧ n < 4294967296 := by
    intro i h
    have h1 := hi i h
    rw [List.getElem?_eq_getElem (by omega)] at h1
    obtain ⟨n, hc, _, hw⟩ := DataW.trod_int Try.underlying22 h1
    obtain ⟨b0, b1⟩ := bounds_u32 hw
    refine ⟨n.toNat, ?_, by omega⟩
    simp only [Value.cells, Nat.mul_one] at hc
    have h2 : (T.toList.drop i)[0]? = some (.int .u32 n) := by
      have := congrArg (fun l => l[0]?) hc
      simpa using this
    rw [Int.toNat_of_nonneg b0]
    simpa using h2
  exact ⟨T, rfl, hT, fun i => if h : i < 256 then (hat i h).choose else 0, fun i h => by have := (hat i h).choose_spec.1; simpa [h] using this, fun i h => by have := (hat i h).choose_spec.2; simpa [h] using this⟩

theorem refgo_slice (b off c0 : Nat) (t : Nat → Nat) (w : World) (hT : ∀ i, i < 256 → w.cell? ⟨b, off + i, none⟩ = some (.int .u32 (t i : Nat))) (ht : ∀ i, i < 256 → t i < 4294967296)
    (n : Nat) (hn : n < 4294967296) (s : ByteArray) (hs : s.size ≤ maxLen) :
    Calls Try.prog 19 #[.slice (some ⟨b, off, none⟩) 256 c0, .int .u32 n, .string s] w fun e w' => e = .returned (.int .u32 (inv (goL t (inv n) s.data.toList) : Nat)) ∧ w = w' :=
  refgo_any b off c0 t w hT ht n hn s hs

set_option maxRecDepth 100000 in
set_option maxHeartbeats 400000 in
theorem sumsGoes_nat (T : Array Value) (hTs : T.size = 256) (t : Nat → Nat) (hT : ∀ i, i < 256 → T[i]? = some (.int .u32 (t i : Nat))) (ht : ∀ i, i < 256 → t i < 4294967296)
    (n : Nat) (hn : n < 4294967296) (s : ByteArray) (hs : s.size ≤ maxLen) (w : World) :
    Calls Try.prog 5 #[.agg T, .int .u32 n, .string s] w fun e w' => e = .returned (.bool true) ∧ Below w.heap.size w w' := by
  have hs' := hs
  unfold maxLen at hs'
  have hg1 : (w.alloc (.cells T 23)).heap[w.heap.size]? = some (.cells T 23) := heap_alloc_new _ _
  have hi2 : (Try.prog.info? 23).map (·.size) = some T.size := by rw [hTs]; exact info23
  have hT' := Lib.hid hT
  have ht' := Lib.hid ht
  clear hT ht
  by_cases h : 20000 < s.size
  · have hd : decide ((20000 : Int) < (s.size : Int)) = true := by simp; omega
    go_enter Try.func5, Try.ntmps5
    go_wp2_with fail
    have hex := Grew.all (w.alloc (.cells T 23))
    refine wp_region_grew (by kernel_rfl) (by kernel_rfl) ?_
    repeat (first | go_big_quiet_skip | (go_big_quiet_want; go_big_quiet_op; first | go_big_quiet_on | (apply Exists.intro; refine ⟨fun W hW => ?_, ?_⟩; (first | (go_at_call 15; with_reducible exact Calls.grew hW (awake_any _))); go_big_quiet_on)))
    refine wpQuiet_nil ?_
    intro w1 hw1
    go_wp2
    go_ret
    exact ⟨rfl, ((Below.refl _ w).alloc (Nat.le_refl _) (.cells T 23)).trans (Below.mono hw1 (by simp))⟩
  · have hd : decide ((20000 : Int) < (s.size : Int)) = false := by simp; omega
    go_enter Try.func5, Try.ntmps5
    go_wp2_with fail
    have hex := Grew.all (w.alloc (.cells T 23))
    have hcell : ∀ W, Grew (w.alloc (.cells T 23)) W → ∀ i, i < 256 → W.cell? ⟨w.heap.size, 0 + i, none⟩ = some (.int .u32 (t i : Nat)) := fun W hW i hi => by
      rw [Nat.zero_add, cell_of_row W w.heap.size i T 23 (0, 0) (hW.at_ hg1)]; exact hT'.out i hi
    have hcell := Lib.hid hcell
    refine wp_region_grew (by kernel_rfl) (by kernel_rfl) ?_
    repeat (first | go_big_quiet_skip | (go_big_quiet_want; go_big_quiet_op; first | go_big_quiet_on | (apply Exists.intro; refine ⟨fun W hW => ?_, ?_⟩; (first | (go_at_call 15; with_reducible exact Calls.grew hW (awake_any _))); go_big_quiet_on)))
    go_big_quiet_want
    refine quiet_load_row 23 (.tmp 3) rfl w.heap.size rfl 23 T (0, 0) _ (fun W hW => hW.at_ hg1) Try.underlying23 rfl hi2 ?_
    simp only [Act.put, List.setIfInBounds_toArray, List.set_cons_succ, List.set_cons_zero]
    go_big_quiet_on
    repeat (first | go_big_quiet_skip | (go_big_quiet_want; go_big_quiet_op; first | go_big_quiet_on | (apply Exists.intro; refine ⟨fun W hW => ?_, ?_⟩; (first | (go_at_call 15; with_reducible exact Calls.grew hW (awake_any _)) | (go_at_call 18; with_reducible exact Calls.grew hW (go_any T t hT'.out ht'.out n hn s hs W)) | (go_at_call 19; with_reducible exact Calls.grew_same hW (refgo_any w.heap.size 0 256 t W (hcell.out W hW) ht'.out n hn s hs))); go_big_quiet_on)))
    refine wpQuiet_nil ?_
    intro w1 hw1
    go_wp2
    go_ret
    exact ⟨rfl, ((Below.refl _ w).alloc (Nat.le_refl _) (.cells T 23)).trans (Below.mono hw1 (by simp))⟩
theorem sumsGoes_walk (v : Value) (a : Int) (s : ByteArray) (hv : IsTab v) (ha : (Lit.int .u32 a).wf = true) (hs : s.size ≤ maxLen) (w : World) :
    Calls Try.prog 5 #[v, .int .u32 a, .string s] w fun e w' => e = .returned (.bool true) ∧ Below w.heap.size w w' := by
  obtain ⟨T, rfl, hT, t, h1, h2⟩ := hv
  obtain ⟨b0, b1⟩ := bounds_u32 ha
  obtain ⟨n, rfl⟩ := Int.eq_ofNat_of_zero_le b0
  exact sumsGoes_nat T hT t h1 h2 n (by omega) s hs w
end Go.Proofs.Yticilbcdpiceaaa
