/- The walks of keep's wrong, clear, Save and Load. Conditions: as each theorem says. -/
import Derived.Test.YtbaffabemomgjaaGreatDoorDskF
import Derived.Test.YtbaffabemomgjaaGreatDoorKepQ
namespace Go.Proofs.YtbaffabemomgjaaGreatDoor
open Go.RowKit

def lows : Bys := [97, 98, 99, 100, 101, 102, 103, 104, 105, 106, 107, 108, 109, 110, 111, 112, 113, 114, 115, 116, 117, 118, 119, 120, 121, 122]
theorem lows_in : ∀ n : Fin 256, lows.contains (UInt8.ofNat n.1) = lowB (UInt8.ofNat n.1) := by decide +kernel
theorem lows_has (b : UInt8) : lows.contains b = lowB b := by
  have := lows_in ⟨b.toNat, b.toNat_lt⟩
  simpa using this
theorem drop_all {l : Bys} {p : UInt8 → Bool} (h : l.all p = true) : l.dropWhile p = [] := by
  rw [List.all_eq_true] at h
  induction l with
  | nil => rfl
  | cons a r ih => rw [List.dropWhile_cons, if_pos (h a (by simp)), ih (fun x hx => h x (List.mem_cons_of_mem _ hx))]
theorem drop_some {l : Bys} {p : UInt8 → Bool} (h : l.all p = false) : l.dropWhile p ≠ [] ∧ (l.dropWhile p).all p = false := by
  induction l with
  | nil => simp at h
  | cons a r ih =>
    rw [List.dropWhile_cons]
    by_cases ha : p a = true
    · rw [if_pos ha]
      rw [List.all_cons, ha, Bool.true_and] at h
      exact ih h
    · rw [if_neg ha]
      exact ⟨by simp, h⟩
theorem trim_low (k : Bys) : (Lib.trimS k lows = []) ↔ k.all lowB = true := by
  have e : (fun b => lows.contains b) = lowB := funext lows_has
  unfold Lib.trimS Lib.trimLeftS Lib.trimRightS
  rw [show (fun x => lows.contains x) = lowB from e]
  constructor
  · intro h
    cases ha : k.all lowB with
    | true => rfl
    | false =>
      exfalso
      have h1 : k.reverse.all lowB = false := by rw [List.all_reverse]; exact ha
      have h2 := (drop_some h1).2
      have h3 : (k.reverse.dropWhile lowB).reverse.all lowB = false := by rw [List.all_reverse]; exact h2
      exact (drop_some h3).1 h
  · intro h
    have h1 : k.reverse.all lowB = true := by rw [List.all_reverse]; exact h
    rw [drop_all h1]
    rfl
theorem trim_any (k : Bys) (hk : k.length ≤ maxLen) (w : World) : Calls Tryz.prog 49 #[.string (bs k), .string ⟨#[97, 98, 99, 100, 101, 102, 103, 104, 105, 106, 107, 108, 109, 110, 111, 112, 113, 114, 115, 116, 117, 118, 119, 120, 121, 122]⟩] w
    fun e w' => e = .returned (.string (bs (Lib.trimS k lows))) ∧ Below w.heap.size w w' := by
  have h := Any.strings_Trim_laid Tryz.trim (by kernel_rfl) (bs k) (bs lows) w (by rw [bs_size]; unfold maxLen at hk; omega) (by decide) (ascii_of_all (by decide))
  rw [bs_data, bs_data] at h
  exact h
set_option maxRecDepth 100000 in
theorem wrong_nil (k : Bys) (w : World) : Calls Tryz.prog 23 #[.pointer none, strV k] w fun e w' => e = .returned (.int .i64 2) ∧ Below w.heap.size w w' := by
  unfold strV
  go_enter Tryz.func23, Tryz.ntmps23
  go_wp2
  go_ret
  exact ⟨rfl, Below.refl _ _⟩
def wrongD (k : Bys) : Int := if rightN k = false then 1 else 0
set_option maxRecDepth 100000 in
theorem wrong_any (g : Nat) (k : Bys) (hk : k.length ≤ maxLen) (w : World) : Calls Tryz.prog 23 #[ptrV g, strV k] w fun e w' => e = .returned (.int .i64 (wrongD k)) ∧ Below w.heap.size w w' := by
  have hz := bs_size k
  have hemp := bs_isEmpty k
  unfold strV ptrV maxLen at *
  by_cases h1 : k = []
  · have HW : Hid (wrongD k = 1) := by show _ = _; rw [h1]; rfl
    rw [decide_eq_true h1] at hemp
    clear h1 hz
    go_enter Tryz.func23, Tryz.ntmps23
    go_wp2
    go_ret
    exact ⟨by rw [HW.out]; rfl, Below.refl _ _⟩
  rw [decide_eq_false h1] at hemp
  by_cases h2 : 20 < (bs k).size
  · have HW : Hid (wrongD k = 1) := by
      show _ = _
      unfold wrongD rightN
      rw [if_pos]
      rw [Bool.and_eq_false_iff]
      right
      exact decide_eq_false (by omega)
    clear h1 hz
    go_enter Tryz.func23, Tryz.ntmps23
    go_wp2
    go_ret
    exact ⟨by rw [HW.out]; rfl, Below.refl _ _⟩
  have HT := Lib.hid (fun W => trim_any k (by unfold maxLen; omega) W)
  have hq := trim_low k
  have he2 := bs_isEmpty (Lib.trimS k lows)
  generalize Lib.trimS k lows = T at *
  cases ha : k.all lowB with
  | true =>
    rw [ha] at hq
    rw [decide_eq_true (hq.2 rfl)] at he2
    have HW : Hid (wrongD k = 0) := by
      show _ = _
      unfold wrongD rightN
      rw [if_neg]
      rw [ha, Bool.true_and, decide_eq_true]
      · decide
      · cases k with
        | nil => exact absurd rfl h1
        | cons a r => simp at hz ⊢; omega
    clear h1 hz hq ha
    go_enter Tryz.func23, Tryz.ntmps23
    go_wp2_with (go_at_call 49; refine (HT.out _).mono ?_; rintro e w1 ⟨rfl, hb⟩)
    go_ret
    exact ⟨by rw [HW.out]; rfl, hb⟩
  | false =>
    rw [ha] at hq
    rw [decide_eq_false (fun e => by have := hq.1 e; cases this)] at he2
    have HW : Hid (wrongD k = 1) := by
      show _ = _
      unfold wrongD rightN
      rw [ha]; rfl
    clear h1 hz hq ha
    go_enter Tryz.func23, Tryz.ntmps23
    go_wp2_with (go_at_call 49; refine (HT.out _).mono ?_; rintro e w1 ⟨rfl, hb⟩)
    go_ret
    exact ⟨by rw [HW.out]; rfl, hb⟩
section
variable {g b : Nat} {d : Dk} {w : World}
set_option maxRecDepth 100000 in
theorem clear_any (h : DkAt g b d w) (hf : d.fit) (k : Bys) (hk : k.length ≤ maxLen) : Calls Tryz.prog 25 #[ptrV g, strV k] w (DkDone g b (clearD d k).1 (clearD d k).2 w) := by
  have HR := remove_any h hf k hk
  clear h hf hk
  unfold clearD
  unfold DkDone ptrV strV at *
  by_cases hz : (removeD d k).2 = 21
  · rw [hz] at HR
    simp only [hz, if_true]
    have HR := Lib.hid HR
    clear hz
    go_enter Tryz.func25, Tryz.ntmps25
    go_wp2_with (go_at_call 37; refine HR.out.mono ?_; rintro e w1 ⟨rfl, hD, hA⟩)
    go_ret
    exact ⟨rfl, hD, hA⟩
  · simp only [if_neg hz]
    have hz2 : ((removeD d k).2 == 21) = false := beq_eq_false_iff_ne.2 hz
    have HR := Lib.hid HR
    generalize removeD d k = r at *
    obtain ⟨d1, q⟩ := r
    simp only at hz2 HR ⊢
    clear hz
    go_enter Tryz.func25, Tryz.ntmps25
    go_wp2_with (go_at_call 37; refine HR.out.mono ?_; rintro e w1 ⟨rfl, hD, hA⟩)
    go_ret
    exact ⟨rfl, hD, hA⟩
end
end Go.Proofs.YtbaffabemomgjaaGreatDoor
