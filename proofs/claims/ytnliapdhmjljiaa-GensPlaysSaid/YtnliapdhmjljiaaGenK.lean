/- The walks of open (both ways), put, tombstone. Conditions: as each theorem says. -/
import Derived.Test.YtnliapdhmjljiaaGenJ
namespace Go.Proofs.Ytnliapdhmjljiaa
open Go.RowKit

section
variable {F : Nat → Prop} {kb : Nat} {s : Ks} {u : Value} {ps : List Value} {w : World}
/-- How great a key is: its generations, their puts. -/
def smallK (s : Ks) (n : Nat) : Prop := s.gs.length ≤ n ∧ ∀ g ∈ s.gs, g.puts.length ≤ n
theorem open_no (h : KeyAt F kb s u ps w) (ho : openB s.gs = false) (hl : s.gs.length ≤ 1000000) : Calls Try.prog 39 #[.pointer (some ⟨kb, 0, none⟩)] w fun e w' => e = .returned (.pointer none) ∧ w' = w := by
  by_cases hn : s.gs = []
  · exact open_nil h hn
  · rcases h.form with ⟨_, h2⟩ | ⟨g, cap, hu, h1, h2⟩
    · exact absurd h2 hn
    · obtain ⟨m, hm⟩ : ∃ m, s.gs.length = m + 1 := ⟨s.gs.length - 1, by have := List.length_pos_iff.2 hn; omega⟩
      have := open_some h (by rw [← hm]; exact hu) hm (by omega)
      rw [ho] at this
      exact this
theorem open_yes (h : KeyAt F kb s u ps w) {g cap m : Nat} (hu : u = .slice (some ⟨g, 0, none⟩) (m + 1) cap) (hm : s.gs.length = m + 1) (ho : openB s.gs = true) (hl : s.gs.length ≤ 1000000) : Calls Try.prog 39 #[.pointer (some ⟨kb, 0, none⟩)] w fun e w' => e = .returned (.pointer (some ⟨g, m * 4, none⟩)) ∧ w' = w := by
  have := open_some h hu hm (by omega)
  rw [if_pos ho] at this
  exact this
/-- A key whose last generation is open: what its slice is. -/
theorem KeyAt.last (h : KeyAt F kb s u ps w) (ho : openB s.gs = true) : ∃ g cap m, u = .slice (some ⟨g, 0, none⟩) (m + 1) cap ∧ s.gs.length = m + 1 := by
  have hn : s.gs ≠ [] := by intro e; rw [e] at ho; simp [openB] at ho
  rcases h.form with ⟨_, h2⟩ | ⟨g, cap, hu, h1, h2⟩
  · exact absurd h2 hn
  · obtain ⟨m, hm⟩ : ∃ m, s.gs.length = m + 1 := ⟨s.gs.length - 1, by have := List.length_pos_iff.2 hn; omega⟩
    exact ⟨g, cap, m, by rw [← hm]; exact hu, hm⟩
set_option maxRecDepth 100000 in
set_option maxHeartbeats 400000 in
theorem tombstone_yes (h : KeyAt F kb s u ps w) (ho : openB s.gs = true) (hl : s.gs.length ≤ 1000000) (rev : Int) : Calls Try.prog 33 #[.pointer (some ⟨kb, 0, none⟩), .int .i64 rev] w fun e w' => e = .returned (.int .i64 0) ∧ KeyIn F kb ⟨tombG s.gs rev, s.last⟩ w' ∧ Apart F w w' := by
  obtain ⟨g, cap, m, hu, hm⟩ := h.last ho
  have h2 : m < ps.length := by rw [h.len]; omega
  have hc := h.gcell (by rw [hm]; exact hu) m (by omega) h2 3 (by omega)
  have hc3 : w.cell? ⟨g, m * 4 + 3, none⟩ = some (.int .i64 (s.gs[m]'(by omega)).fin) := by rw [hc.1]; rfl
  have hf3 := hc.2
  have hopen := Lib.hid (open_yes h hu hm ho hl)
  have HEnd : Hid (KeyIn F kb ⟨tombG s.gs rev, s.last⟩ (w.setCell ⟨g, m * 4 + 3, none⟩ (.int .i64 rev)) ∧ Apart F w (w.setCell ⟨g, m * 4 + 3, none⟩ (.int .i64 rev))) := by
    apply Lib.hid
    have hgF : F g := (h.uF g (by rw [hu]; rfl)).1
    have := h.setP (g := g) (cap := cap) (by rw [hm]; exact hu) m 3 (by omega) h2 (by omega) (.int .i64 rev) { s.gs[m]'(by omega) with fin := rev } ps[m] w rfl (fun _ _ _ => rfl) (h.puts m (by omega) h2) (fun b hb => .inl hb) (Nat.le_refl _)
    refine ⟨⟨u, ps.set m ps[m], ?_⟩, Apart.set w g _ _ hgF⟩
    rw [tombG_set s.gs m rev hm]
    refine this.wider (fun i hi => ?_) (fun i hi => ?_)
    · rcases hi with hi | hi
      · exact hi
      · exact (h.pF _ (List.getElem_mem h2) i hi).1
    · have := h.lt i hi
      simpa [World.setCell] using this
  generalize (s.gs[m]'(by omega)).fin = fin at *
  clear hc h hu hm ho h2 hl
  go_enter Try.func33, Try.ntmps33
  go_wp2_with (go_at_call 39; (with_reducible refine hopen.out.mono ?_); rintro e w' ⟨rfl, rfl⟩)
  go_ret
  exact ⟨rfl, HEnd.out⟩
theorem tombstone_no (h : KeyAt F kb s u ps w) (ho : openB s.gs = false) (hl : s.gs.length ≤ 1000000) (rev : Int) : Calls Try.prog 33 #[.pointer (some ⟨kb, 0, none⟩), .int .i64 rev] w fun e w' => e = .returned (.int .i64 21) ∧ w' = w := by
  have hopen := Lib.hid (open_no h ho hl)
  clear h ho hl
  go_enter Try.func33, Try.ntmps33
  go_wp2_with (go_at_call 39; (with_reducible refine hopen.out.mono ?_); rintro e w' ⟨rfl, rfl⟩)
  go_ret
  exact ⟨rfl, rfl⟩
end
end Go.Proofs.Ytnliapdhmjljiaa
