/- The walks of change, Put, Tombstone. Conditions: as each theorem says. -/
import Derived.Test.YtnliapdhmjljiaaGenL
namespace Go.Proofs.Ytnliapdhmjljiaa
open Go.RowKit

section
variable {F : Nat → Prop} {kb : Nat} {s : Ks} {u : Value} {ps : List Value} {w : World}
theorem Apart.le {F : Nat → Prop} {a b : World} (h : Apart F a b) {i : Nat} (hi : F i) (hF : ∀ i, F i → i < a.heap.size) : i < b.heap.size := Nat.lt_of_lt_of_le (hF i hi) h.size
theorem Foot.self {F : Nat → Prop} {w : World} {i : Nat} : Foot F w w i ↔ F i := ⟨fun h => h.elim id (fun h => by omega), .inl⟩
theorem KeyAt.same (h : KeyAt F kb s u ps w) : KeyIn (Foot F w w) kb s w ∧ Apart F w w := ⟨⟨u, ps, h.wider (fun _ hi => .inl hi) (fun i hi => h.lt i (Foot.self.1 hi))⟩, Apart.refl _ _⟩
/-- The last revision noted. -/
theorem KeyAt.setLast (h : KeyAt F kb s u ps w) (rev : Int) : KeyAt F kb ⟨s.gs, rev⟩ u ps (w.setCell ⟨kb, 1, none⟩ (.int .i64 rev)) := by
  have hset : ∀ b, b ≠ kb → (w.setCell ⟨kb, 1, none⟩ (.int .i64 rev)).heap[b]? = w.heap[b]? := fun b hb => Below.heap_setCell _ _ _ _ hb
  refine ⟨h.key.set 1 _, ownsRow_kept h.row (fun g hg => hset g (h.uF g hg).2), h.len, fun i h1 h2 => (h.puts i h1 h2).kept (fun b e => hset b (h.pF _ (List.getElem_mem h2) b e).2.1), h.kF, h.uF, h.pF, h.nod, fun b hb => ?_⟩
  have := h.lt b hb
  simpa [World.setCell] using this
theorem set_last {kb : Nat} {gs : List Gn} {l0 : Int} (w' : World) (rev : Int) (hk : KeyIn (Foot F w w') kb ⟨gs, l0⟩ w') (ha : Apart F w w') (hF : F kb) :
    KeyIn (Foot F w (w'.setCell ⟨kb, 1, none⟩ (.int .i64 rev))) kb ⟨gs, rev⟩ (w'.setCell ⟨kb, 1, none⟩ (.int .i64 rev)) ∧ Apart F w (w'.setCell ⟨kb, 1, none⟩ (.int .i64 rev)) := by
  obtain ⟨u, ps, hk⟩ := hk
  have hsz : (w'.setCell ⟨kb, 1, none⟩ (.int .i64 rev)).heap.size = w'.heap.size := by simp [World.setCell]
  have hk2 := hk.setLast rev
  refine ⟨⟨u, ps, ?_⟩, ha.trans (Apart.set (F := F) w' kb 1 _ hF) (fun i hi => .inl hi)⟩
  unfold Foot at hk2 ⊢
  rw [hsz]; exact hk2
theorem wrong_yes {last rev : Int} (h : wrongB last rev = true) : rev < 1 ∨ (1 ≤ rev ∧ 1099511627776 < rev) ∨ (1 ≤ rev ∧ rev ≤ 1099511627776 ∧ rev ≤ last) := by
  unfold wrongB at h
  simp only [Bool.or_eq_true, decide_eq_true_eq] at h
  omega
set_option maxRecDepth 100000 in
set_option maxHeartbeats 400000 in
theorem change_wrong (k1 : w.cell? ⟨kb, 1, none⟩ = some (.int .i64 s.last)) (f : Value) (rev : Int) (h : wrongB s.last rev = true) : Calls Try.prog 32 #[.pointer (some ⟨kb, 0, none⟩), .int .i64 rev, f] w fun e w' => e = .returned (.int .i64 1) ∧ w' = w := by
  rcases wrong_yes h with h1 | ⟨h1, h2⟩ | ⟨h1, h2, h3⟩
  · have d1 : decide (rev < 1) = true := decide_eq_true h1
    clear h
    go_enter Try.func32, Try.ntmps32
    go_wp2
    go_ret
    exact ⟨rfl, rfl⟩
  · have d1 : decide (rev < 1) = false := decide_eq_false (by omega)
    have d2 : decide ((1099511627776 : Int) < rev) = true := decide_eq_true h2
    clear h
    go_enter Try.func32, Try.ntmps32
    go_wp2
    go_ret
    exact ⟨rfl, rfl⟩
  · have d1 : decide (rev < 1) = false := decide_eq_false (by omega)
    have d2 : decide ((1099511627776 : Int) < rev) = false := decide_eq_false (by omega)
    have d3 : decide (rev ≤ s.last) = true := decide_eq_true h3
    clear h
    go_enter Try.func32, Try.ntmps32
    go_wp2
    go_ret
    exact ⟨rfl, rfl⟩
theorem put_any (h : KeyAt F kb s u ps w) (hl : s.gs.length + 1 ≤ 1000000) (hpl : ∀ g ∈ s.gs, g.puts.length + 1 ≤ 1000000) (rev : Int) : Calls Try.prog 34 #[.pointer (some ⟨kb, 0, none⟩), .int .i64 rev] w fun e w' => e = .returned (.int .i64 0) ∧ KeyIn (Foot F w w') kb ⟨putG s.gs rev, s.last⟩ w' ∧ Apart F w w' := by
  cases ho : openB s.gs with
  | true => exact put_yes h ho (by omega) hpl rev
  | false => exact put_no h ho hl hpl rev
theorem tombstone_any (h : KeyAt F kb s u ps w) (ho : openB s.gs = true) (hl : s.gs.length ≤ 1000000) (rev : Int) : Calls Try.prog 33 #[.pointer (some ⟨kb, 0, none⟩), .int .i64 rev] w fun e w' => e = .returned (.int .i64 0) ∧ KeyIn (Foot F w w') kb ⟨tombG s.gs rev, s.last⟩ w' ∧ Apart F w w' :=
  (tombstone_yes h ho hl rev).mono fun e w' ⟨h1, ⟨u', ps', h2⟩, h3⟩ => ⟨h1, ⟨u', ps', h2.wider (fun i hi => .inl hi) (fun i hi => by rcases hi with hi | hi; exact h2.lt i hi; exact hi.2)⟩, h3⟩
set_option maxRecDepth 100000 in
set_option maxHeartbeats 400000 in
theorem change_put (k1 : w.cell? ⟨kb, 1, none⟩ = some (.int .i64 s.last)) (rev : Int) (h : wrongB s.last rev = false) (hF : F kb) (gs : List Gn)
    (hc : Calls Try.prog 34 #[.pointer (some ⟨kb, 0, none⟩), .int .i64 rev] w fun e w' => e = .returned (.int .i64 0) ∧ KeyIn (Foot F w w') kb ⟨gs, s.last⟩ w' ∧ Apart F w w') :
    Calls Try.prog 32 #[.pointer (some ⟨kb, 0, none⟩), .int .i64 rev, .func (.func 34) #[.pointer (some ⟨kb, 0, none⟩)] #[]] w fun e w' => e = .returned (.int .i64 0) ∧ KeyIn (Foot F w w') kb ⟨gs, rev⟩ w' ∧ Apart F w w' := by
  obtain ⟨h1, h2, h3⟩ := wrong_no (fun e => by rw [h] at e; cases e)
  have d1 : decide (rev < 1) = false := decide_eq_false (by omega)
  have d2 : decide ((1099511627776 : Int) < rev) = false := decide_eq_false (by omega)
  have d3 : decide (rev ≤ s.last) = false := decide_eq_false (by omega)
  have HC := Lib.hid hc
  clear h hc
  go_enter Try.func32, Try.ntmps32
  go_wp2_with (go_at_call 34; (with_reducible refine HC.out.mono ?_); rintro e w1 ⟨rfl, hk1, ha1⟩; have HK := Lib.hid (set_last (F := F) w1 rev hk1 ha1 hF); have hkk := hk1; obtain ⟨u1, ps1, hk2⟩ := hkk; have hc1 := hk2.k1; have hf1 := BlkAt.frozen hk2.key 1; clear hk1 ha1 hk2)
  go_ret
  exact ⟨rfl, HK.out⟩
set_option maxRecDepth 100000 in
set_option maxHeartbeats 400000 in
theorem change_tombstone (k1 : w.cell? ⟨kb, 1, none⟩ = some (.int .i64 s.last)) (rev : Int) (h : wrongB s.last rev = false) (hF : F kb) (gs : List Gn)
    (hc : Calls Try.prog 33 #[.pointer (some ⟨kb, 0, none⟩), .int .i64 rev] w fun e w' => e = .returned (.int .i64 0) ∧ KeyIn (Foot F w w') kb ⟨gs, s.last⟩ w' ∧ Apart F w w') :
    Calls Try.prog 32 #[.pointer (some ⟨kb, 0, none⟩), .int .i64 rev, .func (.func 33) #[.pointer (some ⟨kb, 0, none⟩)] #[]] w fun e w' => e = .returned (.int .i64 0) ∧ KeyIn (Foot F w w') kb ⟨gs, rev⟩ w' ∧ Apart F w w' := by
  obtain ⟨h1, h2, h3⟩ := wrong_no (fun e => by rw [h] at e; cases e)
  have d1 : decide (rev < 1) = false := decide_eq_false (by omega)
  have d2 : decide ((1099511627776 : Int) < rev) = false := decide_eq_false (by omega)
  have d3 : decide (rev ≤ s.last) = false := decide_eq_false (by omega)
  have HC := Lib.hid hc
  clear h hc
  go_enter Try.func32, Try.ntmps32
  go_wp2_with (go_at_call 33; (with_reducible refine HC.out.mono ?_); rintro e w1 ⟨rfl, hk1, ha1⟩; have HK := Lib.hid (set_last (F := F) w1 rev hk1 ha1 hF); have hkk := hk1; obtain ⟨u1, ps1, hk2⟩ := hkk; have hc1 := hk2.k1; have hf1 := BlkAt.frozen hk2.key 1; clear hk1 ha1 hk2)
  go_ret
  exact ⟨rfl, HK.out⟩
set_option maxRecDepth 100000 in
set_option maxHeartbeats 400000 in
theorem change_none (k1 : w.cell? ⟨kb, 1, none⟩ = some (.int .i64 s.last)) (rev : Int) (h : wrongB s.last rev = false)
    (hc : Calls Try.prog 33 #[.pointer (some ⟨kb, 0, none⟩), .int .i64 rev] w fun e w' => e = .returned (.int .i64 21) ∧ w' = w) :
    Calls Try.prog 32 #[.pointer (some ⟨kb, 0, none⟩), .int .i64 rev, .func (.func 33) #[.pointer (some ⟨kb, 0, none⟩)] #[]] w fun e w' => e = .returned (.int .i64 21) ∧ w' = w := by
  obtain ⟨h1, h2, h3⟩ := wrong_no (fun e => by rw [h] at e; cases e)
  have d1 : decide (rev < 1) = false := decide_eq_false (by omega)
  have d2 : decide ((1099511627776 : Int) < rev) = false := decide_eq_false (by omega)
  have d3 : decide (rev ≤ s.last) = false := decide_eq_false (by omega)
  have HC := Lib.hid hc
  clear h hc
  go_enter Try.func32, Try.ntmps32
  go_wp2_with (go_at_call 33; (with_reducible refine HC.out.mono ?_); rintro e w1 ⟨rfl, rfl⟩)
  go_ret
  exact ⟨rfl, rfl⟩
/-- What a call on a key leaves. -/
def After (F : Nat → Prop) (kb : Nat) (w : World) (v : Value) (s' : Ks) (e : Ending) (w' : World) : Prop := e = .returned v ∧ KeyIn (Foot F w w') kb s' w' ∧ Apart F w w'
set_option maxRecDepth 100000 in
theorem Put_any (h : KeyAt F kb s u ps w) (hl : s.gs.length + 1 ≤ 1000000) (hpl : ∀ g ∈ s.gs, g.puts.length + 1 ≤ 1000000) (rev : Int) : Calls Try.prog 25 #[.pointer (some ⟨kb, 0, none⟩), .int .i64 rev] w (After F kb w (.int .i64 (putK s rev).2) (putK s rev).1) := by
  have hch : Calls Try.prog 32 #[.pointer (some ⟨kb, 0, none⟩), .int .i64 rev, .func (.func 34) #[.pointer (some ⟨kb, 0, none⟩)] #[]] w (After F kb w (.int .i64 (putK s rev).2) (putK s rev).1) := by
    unfold putK
    cases hw : wrongB s.last rev with
    | true => exact (change_wrong h.k1 _ rev hw).mono fun e w' ⟨h1, h2⟩ => by subst h2; exact ⟨h1, h.same⟩
    | false => exact change_put h.k1 rev hw h.kF _ (put_any h hl hpl rev)
  have HC := Lib.hid hch
  clear hch h
  go_enter Try.func25, Try.ntmps25
  go_wp2_with (go_at_call 32; (with_reducible refine HC.out.mono ?_); rintro e w1 ⟨rfl, hk1⟩)
  go_ret
  exact ⟨rfl, hk1⟩
set_option maxRecDepth 100000 in
theorem Tombstone_any (h : KeyAt F kb s u ps w) (hl : s.gs.length ≤ 1000000) (rev : Int) : Calls Try.prog 24 #[.pointer (some ⟨kb, 0, none⟩), .int .i64 rev] w (After F kb w (.int .i64 (tombK s rev).2) (tombK s rev).1) := by
  have hch : Calls Try.prog 32 #[.pointer (some ⟨kb, 0, none⟩), .int .i64 rev, .func (.func 33) #[.pointer (some ⟨kb, 0, none⟩)] #[]] w (After F kb w (.int .i64 (tombK s rev).2) (tombK s rev).1) := by
    unfold tombK
    cases hw : wrongB s.last rev with
    | true => exact (change_wrong h.k1 _ rev hw).mono fun e w' ⟨h1, h2⟩ => by subst h2; exact ⟨h1, h.same⟩
    | false =>
      cases ho : openB s.gs with
      | true => exact change_tombstone h.k1 rev hw h.kF _ (tombstone_any h ho hl rev)
      | false => exact (change_none h.k1 rev hw (tombstone_no h ho hl rev)).mono fun e w' ⟨h1, h2⟩ => by subst h2; exact ⟨h1, h.same⟩
  have HC := Lib.hid hch
  clear hch h
  go_enter Try.func24, Try.ntmps24
  go_wp2_with (go_at_call 32; (with_reducible refine HC.out.mono ?_); rintro e w1 ⟨rfl, hk1⟩)
  go_ret
  exact ⟨rfl, hk1⟩
end
/-! A nil key. -/
theorem Put_nil (rev : Int) (w : World) : Calls Try.prog 25 #[.pointer none, .int .i64 rev] w fun e w' => e = .returned (.int .i64 2) ∧ w' = w := by
  go_enter Try.func25, Try.ntmps25
  go_wp2
  go_ret
  exact ⟨rfl, rfl⟩
theorem Tombstone_nil (rev : Int) (w : World) : Calls Try.prog 24 #[.pointer none, .int .i64 rev] w fun e w' => e = .returned (.int .i64 2) ∧ w' = w := by
  go_enter Try.func24, Try.ntmps24
  go_wp2
  go_ret
  exact ⟨rfl, rfl⟩
theorem last_nil (w : World) : Calls Try.prog 15 #[.pointer none] w fun e w' => e = .returned (.int .i64 0) ∧ w' = w := by
  go_enter Try.func15, Try.ntmps15
  go_wp2
  go_ret
  exact ⟨rfl, rfl⟩
end Go.Proofs.Ytnliapdhmjljiaa
