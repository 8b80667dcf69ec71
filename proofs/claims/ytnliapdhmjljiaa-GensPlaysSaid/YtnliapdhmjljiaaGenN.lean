/- The walks of upTo and what it hands to slices.IndexFunc. Conditions: as each theorem says. -/
import Derived.Test.YtnliapdhmjljiaaGenM
namespace Go.Proofs.Ytnliapdhmjljiaa
open Go.RowKit

theorem puts_get {w : World} {a : Option Addr} {n c : Nat} {l : List Int} (h : PutsAt w (.slice a n c) l) : n = l.length ∧ ∀ k (hk : k < l.length), ∃ b o, a = some ⟨b, o, none⟩ ∧ w.cell? ⟨b, o + k, none⟩ = some (.int .i64 l[k]) := by
  rcases h with ⟨h, rfl⟩ | ⟨b, o, c', cur, h, hh, h1, h2, h3, h4⟩
  · simp only [Value.slice.injEq] at h
    exact ⟨by simp [h.2.1], fun k hk => by simp at hk⟩
  · simp only [Value.slice.injEq] at h
    obtain ⟨rfl, rfl, _⟩ := h
    exact ⟨rfl, fun k hk => ⟨b, o, rfl, by rw [Lib.cell_of_heap hh]; exact h4 k hk⟩⟩
theorem above_any (p rev : Int) (B : Nat) (w : World) (hB : w.cell? ⟨B, 0, none⟩ = some (.int .i64 rev)) : Calls Try.prog 37 #[.int .i64 p, .pointer (some ⟨B, 0, none⟩)] w fun e w' => e = .returned (.bool (decide (rev < p))) ∧ w' = w := by
  go_enter Try.func37, Try.ntmps37
  go_wp2
  go_ret
  exact ⟨rfl, rfl⟩
theorem upTo_ge : ∀ (l : List Int) (k : Nat) (rev : Int), (∀ j (hj : j < l.length), j < k → l[j] ≤ rev) → k ≤ l.length → k ≤ upTo l rev := by
  intro l
  induction l with
  | nil => intro k rev _ hk; exact hk
  | cons p l ih =>
    intro k rev h hk
    cases k with
    | zero => omega
    | succ k =>
      have h0 := h 0 (by simp) (by omega)
      rw [upTo_cons, if_pos (by simpa using h0)]
      have := ih k rev (fun j hj hjk => by have := h (j + 1) (by simpa using hj) (by omega); simpa using this) (by simpa using hk)
      omega
theorem upTo_at : ∀ (l : List Int) (k : Nat) (rev : Int) (hk : k < l.length), k ≤ upTo l rev → rev < l[k] → upTo l rev = k := by
  intro l
  induction l with
  | nil => intro k rev hk; simp at hk
  | cons p l ih =>
    intro k rev hk h1 h2
    rw [upTo_cons] at h1 ⊢
    cases k with
    | zero => rw [if_neg (by simp at h2; omega)]
    | succ k =>
      by_cases hp : p ≤ rev
      · rw [if_pos hp] at h1 ⊢
        rw [ih k rev (by simpa using hk) (by omega) (by simpa using h2)]
      · rw [if_neg hp] at h1; omega
theorem upTo_step (l : List Int) (k : Nat) (rev : Int) (hk : k < l.length) (h : k ≤ upTo l rev) (h2 : l[k] ≤ rev) : k + 1 ≤ upTo l rev := by
  refine upTo_ge l (k + 1) rev (fun j hj hjk => ?_) hk
  by_cases e : j = k
  · subst e; exact h2
  · have key : ∀ (l : List Int) (j : Nat) (hj : j < l.length), j < upTo l rev → l[j] ≤ rev := by
      intro l
      induction l with
      | nil => intro j hj; simp at hj
      | cons p l ih =>
        intro j hj h
        rw [upTo_cons] at h
        by_cases hp : p ≤ rev
        · rw [if_pos hp] at h
          cases j with
          | zero => exact hp
          | succ j => simpa using ih j (by simpa using hj) (by omega)
        · rw [if_neg hp] at h; omega
    exact key l j hj (by omega)
def idxV (l : List Int) (rev : Int) : Int := if upTo l rev = l.length then -1 else (upTo l rev : Int)
set_option maxRecDepth 100000 in
set_option maxHeartbeats 400000 in
theorem index_any (v : Value) (l : List Int) (rev : Int) (B : Nat) (w : World) (h : PutsAt w v l) (hB : w.cell? ⟨B, 0, none⟩ = some (.int .i64 rev)) (hl : l.length ≤ 1000000) :
    Calls Try.prog 36 #[v, .func (.func 37) #[] #[.pointer (some ⟨B, 0, none⟩)]] w fun e w' => e = .returned (.int .i64 (idxV l rev)) ∧ w' = w := by
  obtain ⟨a, c, rfl⟩ := h.form
  have hget := (puts_get h).2
  have HG := Lib.hid hget
  have HA := Lib.hid (fun p => above_any p rev B w hB)
  have HI : Hid (idxV l rev = if upTo l rev = l.length then -1 else (upTo l rev : Int)) := by show _ = _; rfl
  generalize idxV l rev = iv at *
  clear hget h hB
  go_enter Try.func36, Try.ntmps36
  go_wp2
  go_loop [8] (fun i => ∃ k : Nat, k ≤ l.length ∧ k ≤ upTo l rev ∧ i = .int .i64 k) (fun i => l.length - (intOf i).toNat)
  case atStart => exact ⟨0, Nat.zero_le _, Nat.zero_le _, rfl⟩
  case round =>
    obtain ⟨k, hk, hku, rfl⟩ := hrel
    by_cases hlt : k < l.length
    · obtain ⟨b, o, rfl, hc⟩ := HG.out k hlt
      have hst := Lib.hid (upTo_step l k rev hlt hku)
      have hat := Lib.hid (upTo_at l k rev hlt hku)
      have hA := Lib.hid (HA.out l[k])
      clear HG HA
      generalize l[k] = p at *
      by_cases hp : rev < p
      · have e := hat.out hp
        have HE : Hid (upTo l rev = k) := Lib.hid e
        clear e hku hst hat
        have dp : decide (rev < p) = true := decide_eq_true hp
        go_wp2_with (go_at_call 37; (with_reducible refine hA.out.mono ?_); rintro e w1 ⟨rfl, rfl⟩)
        go_ret
        refine ⟨?_, rfl⟩
        rw [HI.out, HE.out, if_neg (by omega)]; rfl
      · have dp : decide (rev < p) = false := decide_eq_false hp
        have e := hst.out (by omega)
        clear hat hst
        go_wp2_with (go_at_call 37; (with_reducible refine hA.out.mono ?_); rintro e w1 ⟨rfl, rfl⟩)
        go_round
        case rel => exact ⟨k + 1, by omega, by omega, by go_num⟩
        case measure => simp [intOf]; omega
    · obtain rfl : k = l.length := by omega
      have he : upTo l rev = l.length := by have := upTo_le l rev; omega
      have HE := Lib.hid he
      clear he hku
      go_wp2
      go_ret
      refine ⟨?_, rfl⟩
      rw [HI.out, if_pos HE.out]; rfl
set_option maxRecDepth 100000 in
set_option maxHeartbeats 400000 in
theorem upTo_any (g : Gn) (v : Value) (rev : Int) (w : World) (h : PutsAt w v g.puts) (hl : g.puts.length ≤ 1000000) :
    Calls Try.prog 29 #[.agg #[.int .i64 g.cr, .int .i64 g.cut, v, .int .i64 g.fin], .int .i64 rev] w fun e w' => e = .returned (.int .i64 (upTo g.puts rev : Int)) ∧ Below w.heap.size w w' := by
  have hb : Below w.heap.size w ((w.alloc (.cells #[.int .i64 g.cr, .int .i64 g.cut, v, .int .i64 g.fin] GnT)).alloc (.cells #[.int .i64 rev] 3)) := ((Below.refl _ w).alloc (Nat.le_refl _) _).alloc (by simp) _
  have hcell := BlkAt.cell (BlkAt.alloc_new (w.alloc (.cells #[.int .i64 g.cr, .int .i64 g.cut, v, .int .i64 g.fin] GnT)) [.int .i64 rev] 3) (i := 0) rfl
  have HI := Lib.hid (index_any v g.puts rev _ _ (h.grew hb) hcell hl)
  have HB := Lib.hid hb
  have hle := upTo_le g.puts rev
  have HV : Hid (idxV g.puts rev = if upTo g.puts rev = g.puts.length then -1 else (upTo g.puts rev : Int)) := by show _ = _; rfl
  obtain ⟨a, c, rfl⟩ := h.form
  by_cases he : upTo g.puts rev = g.puts.length
  · have hv : idxV g.puts rev = -1 := by rw [HV.out, if_pos he]
    rw [hv] at HI
    have HE := Lib.hid he
    clear hv he hb hcell h
    simp only [World.size_alloc] at HI
    go_enter Try.func29, Try.ntmps29
    go_wp2_with (go_at_call 36; (with_reducible refine HI.out.mono ?_); rintro e w1 ⟨rfl, rfl⟩)
    go_ret
    exact ⟨by rw [HE.out]; rfl, HB.out⟩
  · have hv : idxV g.puts rev = (upTo g.puts rev : Int) := by rw [HV.out, if_neg he]
    rw [hv] at HI
    generalize upTo g.puts rev = n at *
    clear hv hb hcell h HV
    simp only [World.size_alloc] at HI
    go_enter Try.func29, Try.ntmps29
    go_wp2_with (go_at_call 36; (with_reducible refine HI.out.mono ?_); rintro e w1 ⟨rfl, rfl⟩)
    go_ret
    exact ⟨rfl, HB.out⟩
end Go.Proofs.Ytnliapdhmjljiaa
