/- The walks of New, Last, open. Conditions: as each theorem says. -/
import Derived.Test.YtnliapdhmjljiaaGenH
import Derived.IntWalk
namespace Go.Proofs.Ytnliapdhmjljiaa
open Go.RowKit

theorem openB_last : ∀ (gs : List Gn) (m : Nat) (hm : gs.length = m + 1), openB gs = decide ((gs[m]'(by omega)).fin = 0) := by
  intro gs
  induction gs with
  | nil => intro m hm; simp at hm
  | cons g gs ih =>
    intro m hm
    cases gs with
    | nil =>
      obtain rfl : m = 0 := by simpa using hm.symm
      rfl
    | cons h gs =>
      obtain ⟨k, rfl⟩ : ∃ k, m = k + 1 := ⟨m - 1, by simp at hm; omega⟩
      have := ih k (by simpa using hm)
      exact this
theorem new_any (w : World) : Calls Try.prog 9 #[] w fun e w' => e = .returned (.pointer (some ⟨w.heap.size, 0, none⟩)) ∧ KeyAt (fun b => b = w.heap.size) w.heap.size newK (.slice none 0 0) [] w' ∧ Below w.heap.size w w' := by
  go_enter Try.func9, Try.ntmps9
  go_wp2
  go_ret
  exact ⟨rfl, key_new w, alloc_below w _⟩
section
variable {F : Nat → Prop} {kb : Nat} {s : Ks} {u : Value} {ps : List Value} {w : World}
theorem last_any (h : KeyAt F kb s u ps w) : Calls Try.prog 15 #[.pointer (some ⟨kb, 0, none⟩)] w fun e w' => e = .returned (.int .i64 s.last) ∧ w' = w := by
  have k1 := h.k1
  go_enter Try.func15, Try.ntmps15
  go_wp2
  go_ret
  exact ⟨rfl, rfl⟩
theorem open_nil (h : KeyAt F kb s u ps w) (hn : s.gs = []) : Calls Try.prog 39 #[.pointer (some ⟨kb, 0, none⟩)] w fun e w' => e = .returned (.pointer none) ∧ w' = w := by
  have k0 := h.k0
  obtain ⟨a, c, rfl⟩ : ∃ a c, u = .slice a 0 c := by
    rcases h.form with ⟨h1, _⟩ | ⟨g, cap, h1, _⟩
    · exact ⟨_, _, h1⟩
    · exact ⟨_, _, by rw [h1, hn]; rfl⟩
  go_enter Try.func39, Try.ntmps39
  go_wp2
  go_ret
  exact ⟨rfl, rfl⟩
set_option maxRecDepth 100000 in
theorem open_some (h : KeyAt F kb s u ps w) {g cap m : Nat} (hu : u = .slice (some ⟨g, 0, none⟩) (m + 1) cap) (hm : s.gs.length = m + 1) (hml : m + 1 ≤ 9223372036854775807) :
    Calls Try.prog 39 #[.pointer (some ⟨kb, 0, none⟩)] w fun e w' => e = .returned (.pointer (if openB s.gs = true then some ⟨g, m * 4, none⟩ else none)) ∧ w' = w := by
  have k0 := h.k0
  rw [hu] at k0
  have hc := h.gcell (by rw [hm]; exact hu) m (by omega) (by rw [h.len]; omega) 3 (by omega)
  have hfin : w.cell? ⟨g, m * 4 + 3, none⟩ = some (.int .i64 (s.gs[m]'(by omega)).fin) := by rw [hc.1]; rfl
  have ho := openB_last s.gs m hm
  rw [ho]
  generalize (s.gs[m]'(by omega)).fin = fin at *
  clear hc ho hu h hm
  have e1 : ((m + 1 : Nat) : Int) - 1 = (m : Int) := by omega
  have e2 : IntKind.i64.wrap (((m + 1 : Nat) : Int) - 1) = (m : Int) := by rw [e1]; exact IntWalk.i64_in _ (by omega)
  have t0 : decide ((0 : Int) < ((m + 1 : Nat) : Int)) = true := decide_eq_true (by omega)
  by_cases hf : fin = 0
  · subst hf
    go_enter Try.func39, Try.ntmps39
    go_wp2
    go_ret
    exact ⟨rfl, rfl⟩
  · have tf : (fin == 0) = false := beq_eq_false_iff_ne.2 hf
    rw [decide_eq_false hf]
    go_enter Try.func39, Try.ntmps39
    go_wp2
    go_ret
    exact ⟨rfl, rfl⟩
end
end Go.Proofs.Ytnliapdhmjljiaa
